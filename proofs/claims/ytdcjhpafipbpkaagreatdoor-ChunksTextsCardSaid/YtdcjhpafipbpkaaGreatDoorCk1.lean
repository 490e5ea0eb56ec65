/- Parts of the proof of ChunksSums, joined: Shelf, Base, LogA. No condition. -/
import Derived.Shelf.Strings.Builder1
import Derived.Shelf.Strings.Builder2
import Derived.Shelf.Strings.Trim
import Derived.Shelf.Small.Utf8
import Derived.Shelf.Small.Bits
import Derived.Shelf.Small.Strs
import Derived.Shelf.Small.Wraps
import Derived.Shelf.Strings.BuilderF
import Derived.Shelf.Strings.BuilderK
import Derived.Shelf.Strings.Builder2Cap
import Derived.Shelf.Strconv.Itoa0
import Derived.Shelf.Strings.Search1
import Derived.Shelf.Sort.Plain
import Derived.Shelf.Strings.Prefix
import Derived.Shelf.Strings.Runes
import Derived.Shelf.Strings.AsciiSet
import Derived.Shelf.Bits.Mul64
import Derived.Shelf.Strings.Repeat
import Derived.Shelf.Unicode.DecodeSlow
import Derived.Shelf.Strings.BuilderCap
import Derived.Shelf.Slices.Reverse
import Derived.Ground.Names2Prog
import Derived.Shelf.Slices.ReverseS
import Derived.Shelf.Slices.Clone
import Derived.Shelf.Slices.SearchI
import Derived.Shelf.Slices.Delete
import Derived.Shelf.Slices.Cells
import Derived.Shelf.Slices.In.SortNone
import Derived.Shelf.Slices.Empties
import Derived.Test.YtdcjhpafipbpkaaGreatDoorProg
import Derived.WalkKit
import Derived.Lib.Hide
import Derived.Maps.Own
import Derived.WalkSpells
import Derived.WalkLawsBesides
import Derived.Deep.RegionHeld3
import Derived.Deep.AppendLies
import Derived.Deep.DrawnRows
set_option linter.unusedSimpArgs false
set_option linter.unusedVariables false
set_option linter.unusedSectionVars false
namespace Go.Proofs
open Go.Shelf
def Tryz.lays169_ren : Go.Shelf.Ren := ⟨fun | 169 => 83 | n => n, fun | 70 => 154 | 9 => 9 | 0 => 0 | 72 => 156 | 37 => 91 | 127 => 235 | 3 => 3 | 5 => 5 | n => n, fun | n => n⟩
theorem Tryz.lays169 : Go.Proofs.Lays.n169 Tryz.prog Tryz.lays169_ren := {
  mixed := by kernel_rfl
  f169 := Tryz.func83.trans (congrArg some (by kernel_rfl))
  t0 := Tryz.underlying0
  a0 := Tryz.isAgg0
  z0 := Tryz.sizeOf0
  v0 := Tryz.zeroValue0
  t3 := Tryz.underlying3
  a3 := Tryz.isAgg3
  z3 := Tryz.sizeOf3
  v3 := Tryz.zeroValue3
  t9 := Tryz.underlying9
  a9 := Tryz.isAgg9
  z9 := Tryz.sizeOf9
  v9 := Tryz.zeroValue9
  t37 := Tryz.underlying91
  a37 := Tryz.isAgg91
  z37 := Tryz.sizeOf91
  v37 := Tryz.zeroValue91
  t70 := Tryz.underlying154
  a70 := Tryz.isAgg154
  z70 := Tryz.sizeOf154
  v70 := Tryz.zeroValue154
  t72 := Tryz.underlying156
  a72 := Tryz.isAgg156
  z72 := Tryz.sizeOf156
  v72 := Tryz.zeroValue156
  t127 := Tryz.underlying235
  a127 := Tryz.isAgg235
  z127 := Tryz.sizeOf235
  v127 := Tryz.zeroValue235 }
theorem Tryz.Builder_Extra_169 : Builder.Extra Tryz.prog Tryz.lays169_ren := {
  sizeBuilder := by kernel_rfl
  liesBuilder := by kernel_rfl
  t5 := Tryz.underlying5
  a5 := Tryz.isAgg5
  z5 := Tryz.sizeOf5
  v5 := Tryz.zeroValue5
  infoByte := by kernel_rfl
  cellsByte := by kernel_rfl
  sizeByte := by kernel_rfl
  neB5 := by decide }
def Tryz.lays160_ren : Go.Shelf.Ren := ⟨fun | 160 => 110 | 232 => 155 | 231 => 154 | 227 => 156 | 234 => 158 | 233 => 157 | 236 => 160 | 235 => 159 | 228 => 199 | 271 => 202 | 151 => 201 | 197 => 200 | 120 => 248 | 152 => 247 | 260 => 246 | 137 => 272 | 119 => 273 | 224 => 274 | 225 => 275 | 217 => 280 | 266 => 283 | n => n, fun | 9 => 9 | 4 => 4 | 3 => 3 | 5 => 5 | 117 => 247 | 116 => 246 | 0 => 0 | 124 => 250 | 21 => 21 | 105 => 282 | 46 => 215 | 119 => 343 | 139 => 346 | 138 => 345 | n => n, fun | 3 => 0 | 4 => 1 | n => n⟩
theorem Tryz.lays160 : Go.Proofs.Lays.n160 Tryz.prog Tryz.lays160_ren := {
  mixed := by kernel_rfl
  f119 := Tryz.func273.trans (congrArg some (by kernel_rfl))
  f120 := Tryz.func248.trans (congrArg some (by kernel_rfl))
  f137 := Tryz.func272.trans (congrArg some (by kernel_rfl))
  f151 := Tryz.func201.trans (congrArg some (by kernel_rfl))
  f152 := Tryz.func247.trans (congrArg some (by kernel_rfl))
  f160 := Tryz.func110.trans (congrArg some (by kernel_rfl))
  f197 := Tryz.func200.trans (congrArg some (by kernel_rfl))
  f217 := Tryz.func280.trans (congrArg some (by kernel_rfl))
  f224 := Tryz.func274.trans (congrArg some (by kernel_rfl))
  f225 := Tryz.func275.trans (congrArg some (by kernel_rfl))
  f227 := Tryz.func156.trans (congrArg some (by kernel_rfl))
  f228 := Tryz.func199.trans (congrArg some (by kernel_rfl))
  f231 := Tryz.func154.trans (congrArg some (by kernel_rfl))
  f232 := Tryz.func155.trans (congrArg some (by kernel_rfl))
  f233 := Tryz.func157.trans (congrArg some (by kernel_rfl))
  f234 := Tryz.func158.trans (congrArg some (by kernel_rfl))
  f235 := Tryz.func159.trans (congrArg some (by kernel_rfl))
  f236 := Tryz.func160.trans (congrArg some (by kernel_rfl))
  f260 := Tryz.func246.trans (congrArg some (by kernel_rfl))
  f266 := Tryz.func283.trans (congrArg some (by kernel_rfl))
  f271 := Tryz.func202.trans (congrArg some (by kernel_rfl))
  t0 := Tryz.underlying0
  a0 := Tryz.isAgg0
  z0 := Tryz.sizeOf0
  v0 := Tryz.zeroValue0
  t3 := Tryz.underlying3
  a3 := Tryz.isAgg3
  z3 := Tryz.sizeOf3
  v3 := Tryz.zeroValue3
  t4 := Tryz.underlying4
  a4 := Tryz.isAgg4
  z4 := Tryz.sizeOf4
  v4 := Tryz.zeroValue4
  t5 := Tryz.underlying5
  a5 := Tryz.isAgg5
  z5 := Tryz.sizeOf5
  v5 := Tryz.zeroValue5
  t9 := Tryz.underlying9
  a9 := Tryz.isAgg9
  z9 := Tryz.sizeOf9
  v9 := Tryz.zeroValue9
  t21 := Tryz.underlying21
  a21 := Tryz.isAgg21
  z21 := Tryz.sizeOf21
  v21 := Tryz.zeroValue21
  t46 := Tryz.underlying215
  a46 := Tryz.isAgg215
  z46 := Tryz.sizeOf215
  v46 := Tryz.zeroValue215
  t105 := Tryz.underlying282
  a105 := Tryz.isAgg282
  z105 := Tryz.sizeOf282
  v105 := Tryz.zeroValue282
  t116 := Tryz.underlying246
  a116 := Tryz.isAgg246
  z116 := Tryz.sizeOf246
  t117 := Tryz.underlying247
  a117 := Tryz.isAgg247
  z117 := Tryz.sizeOf247
  v117 := Tryz.zeroValue247
  t119 := Tryz.underlying343
  a119 := Tryz.isAgg343
  z119 := Tryz.sizeOf343
  t124 := Tryz.underlying250
  a124 := Tryz.isAgg250
  z124 := Tryz.sizeOf250
  v124 := Tryz.zeroValue250
  t138 := Tryz.underlying345
  a138 := Tryz.isAgg345
  z138 := Tryz.sizeOf345
  v138 := Tryz.zeroValue345
  t139 := Tryz.underlying346
  a139 := Tryz.isAgg346
  z139 := Tryz.sizeOf346
  v139 := Tryz.zeroValue346
  g3 := by kernel_rfl
  g4 := by kernel_rfl }
open Go.RowKit in
/-- strings.Trim: "Trim returns a slice of the string s with all leading and trailing Unicode code points contained in cutset removed.": AT A cutset OF ONE ASCII BYTE. THE WORLD BEHIND IT: as it was, or (where s is not empty) with ONE DRAW MORE off the tape: the statement 'return trimLeftByte(trimRightByte(s, c), c)' draws its order of evaluation. (LAID: no walk: one application.) -/
theorem Tryz.strings_Trim_one (s : ByteArray) (c : UInt8) (hc : c.toNat < 128) (w : World) (hs : s.size ≤ 9223372036854775807) :
    Calls Tryz.prog 110 #[.string s, .string ⟨#[c]⟩] w fun e w' => e = .returned (.string ⟨(Lib.trimB s.data.toList c).toArray⟩) ∧ (w' = w ∨ w' = w.drew) := Any.strings_Trim_one Tryz.lays160 s c hc w hs
def Tryz.lays136_ren : Go.Shelf.Ren := ⟨fun | 136 => 144 | n => n, fun | 5 => 5 | 3 => 3 | 9 => 9 | n => n, fun | n => n⟩
theorem Tryz.lays136 : Go.Proofs.Lays.n136 Tryz.prog Tryz.lays136_ren := {
  mixed := by kernel_rfl
  f136 := Tryz.func144.trans (congrArg some (by kernel_rfl))
  t3 := Tryz.underlying3
  a3 := Tryz.isAgg3
  z3 := Tryz.sizeOf3
  v3 := Tryz.zeroValue3
  t5 := Tryz.underlying5
  a5 := Tryz.isAgg5
  z5 := Tryz.sizeOf5
  v5 := Tryz.zeroValue5
  t9 := Tryz.underlying9
  a9 := Tryz.isAgg9
  z9 := Tryz.sizeOf9
  v9 := Tryz.zeroValue9 }
/-- bits.TrailingZeros8: "TrailingZeros8 returns the number of trailing zero bits in x; the result is 8 for x == 0.": IT RETURNS 'Lib.trailingZeros8 x'; the world is as it was. ('h0', 'h1': x is a uint8.) (LAID: no walk: one application.) -/
theorem Tryz.bits_TrailingZeros8 (x : Int) (w : World) (h0 : 0 ≤ x) (h1 : x ≤ 255) :
    Calls Tryz.prog 144 #[.int .u8 x] w fun e w' => e = .returned (.int .i64 (Lib.trailingZeros8 x.toNat)) ∧ w' = w := Any.bits_TrailingZeros8 Tryz.lays136 x w h0 h1
open Go.RowKit in
/-- (*strings.Builder).String: "String returns the accumulated string.": WHATEVER THE BUILDER HOLDS; THE FORM '_k': OVER 'Lib.IsBuilderF' (a builder that 'String()' may have read), AND WITH THE FRAME THAT REACHES ABOVE THE BUILDER: 'Lib.OthersKept': every block that is not b and is no row of uint8's stands as it stood: the iterator of a range among them. (LAID: no walk: one application.) -/
theorem Tryz.Builder_String_any_k (B b : Nat) (l : List UInt8) (w : World) (h : Lib.IsBuilderF 156 5 B b (Lib.byteCells l) w) (hBw : B ≤ w.heap.size) :
    Calls Tryz.prog 83 #[.pointer (some ⟨b, 0, none⟩)] w fun e w' => e = .returned (.string ⟨l.toArray⟩) ∧ (Lib.IsBuilderF 156 5 B b (Lib.byteCells l) w' ∧ Below B w w' ∧ Lib.OthersKept 5 (some b) w w') := Any.Builder_String_any_k Tryz.lays169 Tryz.Builder_Extra_169 B b l w h hBw
def Tryz.lays102_ren : Go.Shelf.Ren := ⟨fun | 102 => 175 | 209 => 211 | 207 => 254 | n => n, fun | 9 => 9 | 4 => 4 | 3 => 3 | n => n, fun | n => n⟩
theorem Tryz.lays102 : Go.Proofs.Lays.n102 Tryz.prog Tryz.lays102_ren := {
  mixed := by kernel_rfl
  f102 := Tryz.func175.trans (congrArg some (by kernel_rfl))
  f207 := Tryz.func254.trans (congrArg some (by kernel_rfl))
  f209 := Tryz.func211.trans (congrArg some (by kernel_rfl))
  t3 := Tryz.underlying3
  a3 := Tryz.isAgg3
  z3 := Tryz.sizeOf3
  v3 := Tryz.zeroValue3
  t4 := Tryz.underlying4
  a4 := Tryz.isAgg4
  z4 := Tryz.sizeOf4
  v4 := Tryz.zeroValue4
  t9 := Tryz.underlying9
  a9 := Tryz.isAgg9
  z9 := Tryz.sizeOf9
  v9 := Tryz.zeroValue9 }
open Go.RowKit Go.Lib in
/-- strings.TrimSuffix: "TrimSuffix returns s without the provided trailing suffix string. If s doesn't end with suffix, s is returned unchanged.": IT RETURNS 'Lib.trimSuffix s suffix'; the world is as it was. (LAID: no walk: one application.) -/
theorem Tryz.strings_TrimSuffix (s p : ByteArray) (w : World) (hs : s.size ≤ 9223372036854775807) :
    Calls Tryz.prog 175 #[.string s, .string p] w fun e w' => e = .returned (.string ⟨(Lib.trimSuffix s.data.toList p.data.toList).toArray⟩) ∧ w' = w := Any.strings_TrimSuffix Tryz.lays102 s p w hs
def Tryz.lays105_ren : Go.Shelf.Ren := ⟨fun | 105 => 147 | 212 => 190 | 99 => 191 | 165 => 192 | 166 => 82 | 170 => 170 | 169 => 83 | 263 => 226 | 264 => 227 | 206 => 228 | 240 => 140 | 241 => 229 | 276 => 188 | 277 => 263 | n => n, fun | 9 => 9 | 3 => 3 | 4 => 4 | 20 => 20 | 0 => 0 | 46 => 215 | 109 => 273 | 5 => 5 | 72 => 156 | 76 => 160 | 51 => 206 | 146 => 307 | 53 => 134 | 148 => 309 | 70 => 154 | 37 => 91 | 75 => 159 | 127 => 235 | 164 => 271 | 80 => 163 | n => n, fun | n => n⟩
theorem Tryz.lays105 : Go.Proofs.Lays.n105 Tryz.prog Tryz.lays105_ren := {
  mixed := by kernel_rfl
  f99 := Tryz.func191.trans (congrArg some (by kernel_rfl))
  f105 := Tryz.func147.trans (congrArg some (by kernel_rfl))
  f165 := Tryz.func192.trans (congrArg some (by kernel_rfl))
  f166 := Tryz.func82.trans (congrArg some (by kernel_rfl))
  f169 := Tryz.func83.trans (congrArg some (by kernel_rfl))
  f170 := Tryz.func170.trans (congrArg some (by kernel_rfl))
  f206 := Tryz.func228.trans (congrArg some (by kernel_rfl))
  f212 := Tryz.func190.trans (congrArg some (by kernel_rfl))
  f240 := Tryz.func140.trans (congrArg some (by kernel_rfl))
  f241 := Tryz.func229.trans (congrArg some (by kernel_rfl))
  f263 := Tryz.func226.trans (congrArg some (by kernel_rfl))
  f264 := Tryz.func227.trans (congrArg some (by kernel_rfl))
  f276 := Tryz.func188.trans (congrArg some (by kernel_rfl))
  f277 := Tryz.func263.trans (congrArg some (by kernel_rfl))
  t0 := Tryz.underlying0
  a0 := Tryz.isAgg0
  z0 := Tryz.sizeOf0
  v0 := Tryz.zeroValue0
  t3 := Tryz.underlying3
  a3 := Tryz.isAgg3
  z3 := Tryz.sizeOf3
  v3 := Tryz.zeroValue3
  t4 := Tryz.underlying4
  a4 := Tryz.isAgg4
  z4 := Tryz.sizeOf4
  v4 := Tryz.zeroValue4
  t5 := Tryz.underlying5
  a5 := Tryz.isAgg5
  z5 := Tryz.sizeOf5
  v5 := Tryz.zeroValue5
  t9 := Tryz.underlying9
  a9 := Tryz.isAgg9
  z9 := Tryz.sizeOf9
  v9 := Tryz.zeroValue9
  t20 := Tryz.underlying20
  a20 := Tryz.isAgg20
  z20 := Tryz.sizeOf20
  v20 := Tryz.zeroValue20
  t37 := Tryz.underlying91
  a37 := Tryz.isAgg91
  z37 := Tryz.sizeOf91
  v37 := Tryz.zeroValue91
  t46 := Tryz.underlying215
  a46 := Tryz.isAgg215
  z46 := Tryz.sizeOf215
  v46 := Tryz.zeroValue215
  t51 := Tryz.underlying206
  a51 := Tryz.isAgg206
  z51 := Tryz.sizeOf206
  v51 := Tryz.zeroValue206
  t53 := Tryz.underlying134
  a53 := Tryz.isAgg134
  z53 := Tryz.sizeOf134
  v53 := Tryz.zeroValue134
  t70 := Tryz.underlying154
  a70 := Tryz.isAgg154
  z70 := Tryz.sizeOf154
  v70 := Tryz.zeroValue154
  t72 := Tryz.underlying156
  a72 := Tryz.isAgg156
  z72 := Tryz.sizeOf156
  v72 := Tryz.zeroValue156
  t75 := Tryz.underlying159
  a75 := Tryz.isAgg159
  z75 := Tryz.sizeOf159
  v75 := Tryz.zeroValue159
  t76 := Tryz.underlying160
  a76 := Tryz.isAgg160
  z76 := Tryz.sizeOf160
  v76 := Tryz.zeroValue160
  t109 := Tryz.underlying273
  a109 := Tryz.isAgg273
  z109 := Tryz.sizeOf273
  v109 := Tryz.zeroValue273
  t127 := Tryz.underlying235
  a127 := Tryz.isAgg235
  z127 := Tryz.sizeOf235
  v127 := Tryz.zeroValue235
  t146 := Tryz.underlying307
  a146 := Tryz.isAgg307
  z146 := Tryz.sizeOf307
  v146 := Tryz.zeroValue307
  t148 := Tryz.underlying309
  a148 := Tryz.isAgg309
  z148 := Tryz.sizeOf309
  v148 := Tryz.zeroValue309
  t164 := Tryz.underlying271
  a164 := Tryz.isAgg271
  z164 := Tryz.sizeOf271
  v164 := Tryz.zeroValue271 }
theorem Tryz.Builder_Extra_105 : Builder.Extra Tryz.prog Tryz.lays105_ren := {
  sizeBuilder := by kernel_rfl
  liesBuilder := by kernel_rfl
  t5 := Tryz.underlying5
  a5 := Tryz.isAgg5
  z5 := Tryz.sizeOf5
  v5 := Tryz.zeroValue5
  infoByte := by kernel_rfl
  cellsByte := by kernel_rfl
  sizeByte := by kernel_rfl
  neB5 := by decide }
open Go.RowKit Go.Lib in
/-- **strings.Repeat: count ≥ 0, the result within one allocation: count copies of s.** (LAID: no walk: one application.) -/
theorem Tryz.strings_Repeat (s : ByteArray) (c : Nat) (w : World) (hc : c ≤ 9223372036854775807) (hlen : s.size * c ≤ 140737488355328) :
    Calls Tryz.prog 147 #[.string s, .int .i64 c] w fun e w' => e = .returned (.string ⟨(Lib.repeatL s.data.toList c).toArray⟩) ∧ Below w.heap.size w w' := Any.strings_Repeat Tryz.lays105 Tryz.Builder_Extra_105 s c w hc hlen
def Tryz.laysNm215_ren : Go.Shelf.Ren := ⟨fun | 15 => 216 | n => n, fun | 22 => 191 | 3 => 3 | 4 => 4 | n => n, fun | n => n⟩
theorem Tryz.laysNm215 : Go.Proofs.Lays2.n15 Tryz.prog Tryz.laysNm215_ren := {
  mixed := by kernel_rfl
  f15 := Tryz.func216.trans (congrArg some (by kernel_rfl))
  t3 := Tryz.underlying3
  a3 := Tryz.isAgg3
  z3 := Tryz.sizeOf3
  v3 := Tryz.zeroValue3
  t4 := Tryz.underlying4
  a4 := Tryz.isAgg4
  z4 := Tryz.sizeOf4
  v4 := Tryz.zeroValue4
  t22 := Tryz.underlying191
  a22 := Tryz.isAgg191
  z22 := Tryz.sizeOf191
  v22 := Tryz.zeroValue191
  i3 := by kernel_rfl }
open Go.RowKit Go.Lib in
/-- slices.Clone at []int: "Clone returns a copy of the slice. The elements are copied using assignment, so this is a shallow clone. The result may have additional unused capacity. The result preserves the nilness of s.": OF A SLICE THAT IS NOT nil IT RETURNS A SLICE THAT IS NOT nil, OF THE SAME ELEMENTS, IN MEMORY OF THE CALL's OWN: in the how-to's words (6f): 'w'.ownsRow B e 1 v' n cells': v' begins at the head of a row among the blocks from B on (B: the heap's size at the call), not frozen, whose first cells are the elements · 'Below B w w'': below B all is as it was. The capacity is whatever the run-time gives. 'zs': what the cells behind the slice's address hold; 'zs.take n': its elements. (LAID: no walk: one application.) -/
theorem Tryz.slices_Clone_int (b off n c : Nat) (zs : List Int) (w : World) (hz : n ≤ zs.length) (hbig : n * 8 ≤ 140737488355328) (hc : ∀ j, j < zs.length → w.cell? ⟨b, off + j, none⟩ = some (.int .i64 (zs.getD j 0))) :
    Calls Tryz.prog 216 #[.slice (some ⟨b, off, none⟩) n c] w fun e w' => ∃ v', e = .returned v' ∧ w'.ownsRow w.heap.size 3 1 v' n ((zs.take n).map (Value.int .i64)) ∧ v' ≠ .slice none 0 0 ∧ Below w.heap.size w w' := Any.slices_Clone_int Tryz.laysNm215 b off n c zs w hz hbig hc
def Tryz.laysNm216_ren : Go.Shelf.Ren := ⟨fun | 16 => 215 | n => n, fun | 24 => 63 | 9 => 9 | 4 => 4 | n => n, fun | n => n⟩
theorem Tryz.laysNm216 : Go.Proofs.Lays2.n16 Tryz.prog Tryz.laysNm216_ren := {
  mixed := by kernel_rfl
  f16 := Tryz.func215.trans (congrArg some (by kernel_rfl))
  t4 := Tryz.underlying4
  a4 := Tryz.isAgg4
  z4 := Tryz.sizeOf4
  v4 := Tryz.zeroValue4
  t9 := Tryz.underlying9
  a9 := Tryz.isAgg9
  z9 := Tryz.sizeOf9
  v9 := Tryz.zeroValue9
  t24 := Tryz.underlying63
  a24 := Tryz.isAgg63
  z24 := Tryz.sizeOf63
  v24 := Tryz.zeroValue63
  i9 := by kernel_rfl }
open Go.RowKit Go.Lib in
/-- slices.Clone at []string: "Clone returns a copy of the slice. The elements are copied using assignment, so this is a shallow clone. The result may have additional unused capacity. The result preserves the nilness of s.": OF A SLICE THAT IS NOT nil IT RETURNS A SLICE THAT IS NOT nil, OF THE SAME ELEMENTS, IN MEMORY OF THE CALL's OWN: in the how-to's words (6f): 'w'.ownsRow B e 1 v' n cells': v' begins at the head of a row among the blocks from B on (B: the heap's size at the call), not frozen, whose first cells are the elements · 'Below B w w'': below B all is as it was. The capacity is whatever the run-time gives. 'zs': what the cells behind the slice's address hold; 'zs.take n': its elements. (LAID: no walk: one application.) -/
theorem Tryz.slices_Clone_string (b off n c : Nat) (zs : List ByteArray) (w : World) (hz : n ≤ zs.length) (hbig : n * 16 ≤ 140737488355328) (hc : ∀ j, j < zs.length → w.cell? ⟨b, off + j, none⟩ = some (.string (zs.getD j ByteArray.empty))) :
    Calls Tryz.prog 215 #[.slice (some ⟨b, off, none⟩) n c] w fun e w' => ∃ v', e = .returned v' ∧ w'.ownsRow w.heap.size 9 1 v' n ((zs.take n).map (Value.string)) ∧ v' ≠ .slice none 0 0 ∧ Below w.heap.size w w' := Any.slices_Clone_string Tryz.laysNm216 b off n c zs w hz hbig hc
def Tryz.laysNm223_ren : Go.Shelf.Ren := ⟨fun | 23 => 218 | n => n, fun | 22 => 191 | 3 => 3 | 4 => 4 | 0 => 0 | n => n, fun | n => n⟩
theorem Tryz.laysNm223 : Go.Proofs.Lays2.n23 Tryz.prog Tryz.laysNm223_ren := {
  mixed := by kernel_rfl
  f23 := Tryz.func218.trans (congrArg some (by kernel_rfl))
  t0 := Tryz.underlying0
  a0 := Tryz.isAgg0
  z0 := Tryz.sizeOf0
  v0 := Tryz.zeroValue0
  t3 := Tryz.underlying3
  a3 := Tryz.isAgg3
  z3 := Tryz.sizeOf3
  v3 := Tryz.zeroValue3
  t4 := Tryz.underlying4
  a4 := Tryz.isAgg4
  z4 := Tryz.sizeOf4
  v4 := Tryz.zeroValue4
  t22 := Tryz.underlying191
  a22 := Tryz.isAgg191
  z22 := Tryz.sizeOf191
  v22 := Tryz.zeroValue191
  i3 := by kernel_rfl }
def Tryz.laysNm224_ren : Go.Shelf.Ren := ⟨fun | 24 => 217 | n => n, fun | 24 => 63 | 9 => 9 | 3 => 3 | 4 => 4 | 0 => 0 | n => n, fun | n => n⟩
theorem Tryz.laysNm224 : Go.Proofs.Lays2.n24 Tryz.prog Tryz.laysNm224_ren := {
  mixed := by kernel_rfl
  f24 := Tryz.func217.trans (congrArg some (by kernel_rfl))
  t0 := Tryz.underlying0
  a0 := Tryz.isAgg0
  z0 := Tryz.sizeOf0
  v0 := Tryz.zeroValue0
  t3 := Tryz.underlying3
  a3 := Tryz.isAgg3
  z3 := Tryz.sizeOf3
  v3 := Tryz.zeroValue3
  t4 := Tryz.underlying4
  a4 := Tryz.isAgg4
  z4 := Tryz.sizeOf4
  v4 := Tryz.zeroValue4
  t9 := Tryz.underlying9
  a9 := Tryz.isAgg9
  z9 := Tryz.sizeOf9
  v9 := Tryz.zeroValue9
  t24 := Tryz.underlying63
  a24 := Tryz.isAgg63
  z24 := Tryz.sizeOf63
  v24 := Tryz.zeroValue63
  i9 := by kernel_rfl }
open Go.RowKit Go.Lib Go.Sort in
/-- slices.Delete at []int, of an argument, for i ≤ j ≤ n: the slice cut to n - (j - i) elements; the n cells hold what stood ahead of i, what stood from j on, then zeros. (LAID: no walk: one application.) -/
theorem Tryz.slices_Delete_int_cells (b off n c i j : Nat) (zs : List Int) (w : World) (hz : n ≤ zs.length) (hcap : n ≤ c) (hm : c ≤ 9223372036854775807) (hij : i ≤ j) (hj : j ≤ n) (hc : ∀ j, j < zs.length → w.cell? ⟨b, off + j, none⟩ = some (.int .i64 (zs.getD j 0))) (hf : ∀ j, j < n → w.frozen? ⟨b, off + j, none⟩ = false) :
    Calls Tryz.prog 218 #[.slice (some ⟨b, off, none⟩) n c, .int .i64 i, .int .i64 j] w fun e w' => e = .returned (.slice (some ⟨b, off, none⟩) (n - (j - i)) c) ∧ ∃ q, w' = (w.drewN q).setCells b off (((zs.take n).take i ++ (zs.take n).drop j ++ List.replicate (j - i) 0).map (Value.int .i64)) := Any.slices_Delete_int_cells Tryz.laysNm223 b off n c i j zs w hz hcap hm hij hj hc hf
open Go.RowKit Go.Lib Go.Sort in
/-- slices.Delete at []string, of an argument, for i ≤ j ≤ n. (LAID: no walk: one application.) -/
theorem Tryz.slices_Delete_string_cells (b off n c i j : Nat) (Sx : Nat → ByteArray) (w : World) (hcap : n ≤ c) (hm : c ≤ 9223372036854775807) (hij : i ≤ j) (hj : j ≤ n) (hc : ∀ i, i < n → w.cell? ⟨b, off + i, none⟩ = some (.string (Sx i))) (hf : ∀ j, j < n → w.frozen? ⟨b, off + j, none⟩ = false) :
    Calls Tryz.prog 217 #[.slice (some ⟨b, off, none⟩) n c, .int .i64 i, .int .i64 j] w fun e w' => e = .returned (.slice (some ⟨b, off, none⟩) (n - (j - i)) c) ∧ ∃ q, w' = (w.drewN q).setCells b off (((Lib.strsOf Sx n).take i ++ (Lib.strsOf Sx n).drop j ++ List.replicate (j - i) []).map encStr) := Any.slices_Delete_string_cells Tryz.laysNm224 b off n c i j Sx w hcap hm hij hj hc hf
end Go.Proofs
namespace Go.Proofs.YtdcjhpafipbpkaaGreatDoor
open Go.RowKit Go.MapKept

/-! ### What a call has changed: only blocks of S, and new ones -/
structure Upd (S : Nat → Prop) (w w' : World) : Prop where
  os : w'.os = w.os
  tape : w'.tape = w.tape
  output : w'.output = w.output
  size : w.heap.size ≤ w'.heap.size
  block : ∀ k, k < w.heap.size → ¬ S k → w'.heap[k]? = w.heap[k]?

theorem Upd.refl (S : Nat → Prop) (w : World) : Upd S w w := ⟨rfl, rfl, rfl, Nat.le_refl _, fun _ _ _ => rfl⟩
theorem Upd.mono {S S' : Nat → Prop} {w w' : World} (h : Upd S w w') (hs : ∀ k, k < w.heap.size → S k → S' k) : Upd S' w w' :=
  ⟨h.os, h.tape, h.output, h.size, fun k hk hn => h.block k hk (fun hx => hn (hs k hk hx))⟩
theorem Upd.trans' {S S' : Nat → Prop} {a b c : World} (h : Upd S a b) (k : Upd S' b c) (hs : ∀ j, j < a.heap.size → S' j → S j) : Upd S a c :=
  ⟨k.os.trans h.os, k.tape.trans h.tape, k.output.trans h.output, Nat.le_trans h.size k.size,
   fun i hi hn => (k.block i (Nat.lt_of_lt_of_le hi h.size) (fun hx => hn (hs i hi hx))).trans (h.block i hi hn)⟩
theorem Upd.trans {S : Nat → Prop} {a b c : World} (h : Upd S a b) (k : Upd S b c) : Upd S a c := h.trans' k (fun _ _ x => x)
theorem Upd.alloc {S : Nat → Prop} {a w : World} (h : Upd S a w) (o : Obj) : Upd S a (w.alloc o) :=
  h.trans ⟨rfl, rfl, rfl, by simp, fun k hk _ => Below.heap_alloc _ _ _ hk⟩
theorem Upd.drew {S : Nat → Prop} {a w : World} (h : Upd S a w) : Upd S a w.drew := ⟨h.os, h.tape, h.output, h.size, h.block⟩
theorem Upd.drew_left {S : Nat → Prop} {a w : World} (h : Upd S a.drew w) : Upd S a w := ⟨h.os, h.tape, h.output, h.size, h.block⟩
theorem Upd.setCell {S : Nat → Prop} {a w : World} (h : Upd S a w) {p : Addr} (hp : S p.block ∨ a.heap.size ≤ p.block) (u : Value) : Upd S a (w.setCell p u) :=
  h.trans' (S' := fun k => k = p.block) ⟨rfl, rfl, rfl, by simp, fun k _ hn => Below.heap_setCell _ _ _ _ hn⟩ (fun j hj e => by
    subst e; rcases hp with hp | hp
    · exact hp
    · omega)
theorem Upd.grown {S : Nat → Prop} {a w w' : World} {row : Option Nat} (h : Upd S a w) (hg : w.grownBy w' row) (hr : ∀ k, row = some k → S k ∨ a.heap.size ≤ k) : Upd S a w' :=
  h.trans' (S' := fun k => row = some k) ⟨hg.os, hg.tape, hg.output, hg.size, fun k hk hn => hg.block k hk (fun e => hn e.symm)⟩ (fun j hj e => by
    rcases hr j e with hp | hp
    · exact hp
    · omega)
theorem Upd.below {S : Nat → Prop} {B : Nat} {w w' : World} (h : Upd S w w') (hB : B ≤ w.heap.size) (hS : ∀ k, k < B → ¬ S k) : Below B w w' :=
  ⟨h.os, h.tape, h.output, h.size, fun k hk => h.block k (by omega) (hS k hk)⟩

theorem upd_setCell (w : World) (b i : Nat) (v : Value) : Upd (fun k => k = b) w (w.setCell ⟨b, i, none⟩ v) := (Upd.refl (fun k => k = b) w).setCell (.inl rfl) v

/-- What was owned, and what is owned now. -/
structure Turn (F F' : Nat → Prop) (w w' : World) : Prop where
  upd : Upd F w w'
  sub : ∀ k, F' k → F k ∨ w.heap.size ≤ k
theorem Turn.refl (F : Nat → Prop) (w : World) : Turn F F w w := ⟨Upd.refl _ _, fun _ h => .inl h⟩
theorem Turn.trans {F F' F'' : Nat → Prop} {a b c : World} (h : Turn F F' a b) (k : Turn F' F'' b c) : Turn F F'' a c :=
  ⟨h.upd.trans' k.upd (fun j hj hx => (h.sub j hx).resolve_right (by omega)), fun j hj => by
    rcases k.sub j hj with hx | hx
    · exact h.sub j hx
    · exact .inr (Nat.le_trans h.upd.size hx)⟩

/-! ### A block of cells that is known whole -/
theorem cell_lit {w : World} {b i : Nat} {cs : Array Value} {T : TypeId} {fr : Nat × Nat} {v : Value} (h : w.heap[b]? = some (.cells cs T fr)) (hv : cs[i]? = some v) : w.cell? ⟨b, i, none⟩ = some v := by
  simp [World.cell?, h, hv]
theorem frozen_lit {w : World} {b : Nat} {cs : Array Value} {T : TypeId} (h : w.heap[b]? = some (.cells cs T (0, 0))) (i : Nat) : w.frozen? ⟨b, i, none⟩ = false := by
  simp [World.frozen?, h]
theorem heap_set_lit {w : World} {b i : Nat} {cs : Array Value} {T : TypeId} {fr : Nat × Nat} (h : w.heap[b]? = some (.cells cs T fr)) (v : Value) : (w.setCell ⟨b, i, none⟩ v).heap[b]? = some (.cells (cs.setIfInBounds i v) T fr) := by
  simp [World.setCell, Array.getElem?_modify, h]
theorem heap_set_ne {w : World} {b i b' : Nat} (v : Value) (h : b' ≠ b) : (w.setCell ⟨b, i, none⟩ v).heap[b']? = w.heap[b']? := Below.heap_setCell _ _ _ _ h
theorem heap_alloc_lt {w : World} {b : Nat} (o : Obj) (h : b < w.heap.size) : (w.alloc o).heap[b]? = w.heap[b]? := Below.heap_alloc _ _ _ h
theorem lt_of_heap {w : World} {b : Nat} {o : Obj} (h : w.heap[b]? = some o) : b < w.heap.size := (Array.getElem?_eq_some_iff.1 h).1
theorem Upd.at {S : Nat → Prop} {w w' : World} (h : Upd S w w') {k : Nat} {o : Obj} (hk : w.heap[k]? = some o) (hn : ¬ S k) : w'.heap[k]? = some o := (h.block k (lt_of_heap hk) hn).trans hk

theorem one1 (a : Value) (ha : a.oneCell' = true) : ∀ u ∈ [a], u.oneCell' = true := by
  intro u hu; simp at hu; rw [hu]; exact ha
theorem one2 (a b : Value) (ha : a.oneCell' = true) (hb : b.oneCell' = true) : ∀ u ∈ [a, b], u.oneCell' = true := by
  intro u hu; simp at hu; rcases hu with rfl | rfl <;> assumption

/-! ### Maps -/
structure KEnc (κ : Type) where
  enc : κ → Value
  desc : TypeDesc
  key : ∀ a, IsKey desc (enc a)
  inj : ∀ a b, enc a = enc b → a = b
def kInt : KEnc Int := ⟨fun n => .int .i64 n, .int .i64, fun _ => rfl, fun a b h => by cases h; rfl⟩
def kStr : KEnc ByteArray := ⟨fun s => .string s, .string, fun _ => trivial, fun a b h => by cases h; rfl⟩

section maps
variable {κ α : Type} [DecidableEq κ]
def look : List (κ × α) → κ → Option α
  | [], _ => none
  | p :: r, k => if p.1 = k then some p.2 else look r k
def del (m : List (κ × α)) (k : κ) : List (κ × α) := m.filter (fun p => decide (p.1 ≠ k))
def put (m : List (κ × α)) (k : κ) (v : α) : List (κ × α) := (k, v) :: del m k

theorem look_none {m : List (κ × α)} {k : κ} : look m k = none ↔ ∀ p ∈ m, p.1 ≠ k := by
  induction m with
  | nil => simp [look]
  | cons p r ih => unfold look; by_cases h : p.1 = k <;> simp [h, ih]
theorem look_some {m : List (κ × α)} {k : κ} {a : α} (hn : (m.map Prod.fst).Nodup) : look m k = some a ↔ (k, a) ∈ m := by
  induction m with
  | nil => simp [look]
  | cons p r ih =>
    simp only [List.map_cons, List.nodup_cons] at hn
    unfold look
    by_cases h : p.1 = k
    · simp only [h, if_true, List.mem_cons]
      constructor
      · intro e; cases e; exact .inl (by rw [← h])
      · intro e
        rcases e with e | e
        · rw [← e]
        · exact absurd (List.mem_map.2 ⟨(k, a), e, h.symm⟩) hn.1
    · simp only [h, if_false, List.mem_cons, ih hn.2]
      constructor
      · exact .inr
      · intro e
        rcases e with e | e
        · exact absurd (by rw [← e]) h
        · exact e
theorem look_perm {m m' : List (κ × α)} (hp : m.Perm m') (hn : (m.map Prod.fst).Nodup) (k : κ) : look m k = look m' k := by
  have hn' : (m'.map Prod.fst).Nodup := (hp.map _).nodup_iff.1 hn
  cases h : look m k with
  | none =>
    rw [eq_comm, look_none]
    exact fun p hp' => look_none.1 h p (hp.mem_iff.2 hp')
  | some a => rw [eq_comm, look_some hn']; exact hp.mem_iff.1 ((look_some hn).1 h)
theorem look_del (m : List (κ × α)) (k k' : κ) : look (del m k) k' = if k = k' then none else look m k' := by
  induction m with
  | nil => simp [del, look]
  | cons p r ih =>
    unfold del at ih ⊢
    by_cases hp : p.1 = k
    · rw [List.filter_cons_of_neg (by simp [hp]), ih]
      by_cases h : k = k'
      · simp [h]
      · simp only [look, hp, h, if_false]
    · rw [List.filter_cons_of_pos (by simp [hp])]
      simp only [look, ih]
      by_cases h : k = k'
      · subst h; simp [hp]
      · simp [h]
theorem look_put (m : List (κ × α)) (k k' : κ) (v : α) : look (put m k v) k' = if k = k' then some v else look m k' := by
  unfold put
  simp only [look, look_del]
  by_cases h : k = k' <;> simp [h]
theorem del_of_none {m : List (κ × α)} {k : κ} (h : look m k = none) : del m k = m := by
  unfold del
  exact List.filter_eq_self.2 fun p hp => by simpa using look_none.1 h p hp
theorem del_perm {m m' : List (κ × α)} (hp : m.Perm m') (k : κ) : (del m k).Perm (del m' k) := hp.filter _
theorem put_perm {m m' : List (κ × α)} (hp : m.Perm m') (k : κ) (v : α) : (put m k v).Perm (put m' k v) := (del_perm hp k).cons _
theorem nodup_del {m : List (κ × α)} (hn : (m.map Prod.fst).Nodup) (k : κ) : ((del m k).map Prod.fst).Nodup :=
  hn.sublist (List.Sublist.map _ List.filter_sublist)
theorem nodup_put {m : List (κ × α)} (hn : (m.map Prod.fst).Nodup) (k : κ) (v : α) : ((put m k v).map Prod.fst).Nodup := by
  simp only [put, List.map_cons, List.nodup_cons]
  refine ⟨fun h => ?_, nodup_del hn k⟩
  obtain ⟨p, hp, e⟩ := List.mem_map.1 h
  simp [del] at hp
  exact hp.2 e
/-- Two lists of pairs without a key twice that look alike are one up to order. -/
theorem perm_of_look {m m' : List (κ × α)} (hn : (m.map Prod.fst).Nodup) (hn' : (m'.map Prod.fst).Nodup) (h : ∀ k, look m k = look m' k) : m.Perm m' := by
  have nd : ∀ l : List (κ × α), (l.map Prod.fst).Nodup → l.Nodup := fun l hl => List.Pairwise.imp (fun hne e => hne (by rw [e])) (List.pairwise_map.1 hl)
  refine (List.perm_ext_iff_of_nodup (nd m hn) (nd m' hn')).2 fun p => ?_
  obtain ⟨k, a⟩ := p
  rw [← look_some hn, ← look_some hn', h k]

/-- Block r is a map that holds the pairs of m, in whatever order. -/
def MapIs (K : KEnc κ) (V : α → Value) (w : World) (r : Nat) (m : List (κ × α)) : Prop :=
  ∃ (es : Array MapEntry) (clock : Nat) (m0 : List (κ × α)), w.heap[r]? = some (.map es clock) ∧ Stamped es clock ∧ es.toList.map (fun e => (e.key, e.val)) = m0.map (fun p => (K.enc p.1, V p.2)) ∧ m0.Perm m

variable {K : KEnc κ} {V : α → Value} {w : World} {r : Nat} {m : List (κ × α)}
omit [DecidableEq κ] in
theorem MapIs.lt (h : MapIs K V w r m) : r < w.heap.size := by obtain ⟨es, clock, m0, hb, _⟩ := h; exact lt_of_heap hb
omit [DecidableEq κ] in
theorem MapIs.perm (h : MapIs K V w r m) {m' : List (κ × α)} (hp : m.Perm m') : MapIs K V w r m' := by
  obtain ⟨es, clock, m0, hb, hs, he, hm⟩ := h; exact ⟨es, clock, m0, hb, hs, he, hm.trans hp⟩
omit [DecidableEq κ] in
theorem MapIs.of_heap (h : MapIs K V w r m) {w' : World} (e : w'.heap[r]? = w.heap[r]?) : MapIs K V w' r m := by
  obtain ⟨es, clock, m0, hb, hs, he, hm⟩ := h; exact ⟨es, clock, m0, e.trans hb, hs, he, hm⟩
omit [DecidableEq κ] in
theorem MapIs.upd (h : MapIs K V w r m) {S : Nat → Prop} {w' : World} (hu : Upd S w w') (hn : ¬ S r) : MapIs K V w' r m := h.of_heap (hu.block r h.lt hn)
omit [DecidableEq κ] in
theorem MapIs.alloc (h : MapIs K V w r m) (o : Obj) : MapIs K V (w.alloc o) r m := h.of_heap (heap_alloc_lt o h.lt)
omit [DecidableEq κ] in
theorem MapIs.made (w : World) : MapIs K V (w.alloc (.map #[] 0)) w.heap.size ([] : List (κ × α)) :=
  ⟨#[], 0, [], (heap_alloc w _).1, stamped_empty 0, rfl, .refl _⟩

omit [DecidableEq κ] in
theorem ents_keys {es : List MapEntry} {m0 : List (κ × α)} (he : es.map (fun e => (e.key, e.val)) = m0.map (fun p => (K.enc p.1, V p.2))) : es.map (·.key) = (m0.map Prod.fst).map K.enc := by
  have := congrArg (List.map Prod.fst) he
  simpa [Function.comp_def] using this
omit [DecidableEq κ] in
theorem ents_isKey {es : List MapEntry} {m0 : List (κ × α)} (he : es.map (fun e => (e.key, e.val)) = m0.map (fun p => (K.enc p.1, V p.2))) : ∀ x ∈ es, IsKey K.desc x.key := by
  intro x hx
  have h1 : x.key ∈ es.map (·.key) := List.mem_map.2 ⟨x, hx, rfl⟩
  rw [ents_keys he] at h1
  obtain ⟨k, _, e⟩ := List.mem_map.1 h1
  rw [← e]; exact K.key k
omit [DecidableEq κ] in
theorem ents_nodup {es : Array MapEntry} {clock : Nat} {m0 : List (κ × α)} (hs : Stamped es clock) (he : es.toList.map (fun e => (e.key, e.val)) = m0.map (fun p => (K.enc p.1, V p.2))) : (m0.map Prod.fst).Nodup := by
  have h1 := hs.2.2
  rw [ents_keys he] at h1
  exact List.Pairwise.imp (fun hne e => hne (by rw [e])) (List.pairwise_map.1 h1)
omit [DecidableEq κ] in
theorem MapIs.nodup (h : MapIs K V w r m) : (m.map Prod.fst).Nodup := by
  obtain ⟨es, clock, m0, hb, hs, he, hm⟩ := h
  exact (hm.map _).nodup_iff.1 (ents_nodup hs he)
omit [DecidableEq κ] in
theorem ents_get {es : List MapEntry} {m0 : List (κ × α)} (he : es.map (fun e => (e.key, e.val)) = m0.map (fun p => (K.enc p.1, V p.2))) {j : Nat} {e : MapEntry} (hj : es[j]? = some e) : ∃ p, m0[j]? = some p ∧ e.key = K.enc p.1 ∧ e.val = V p.2 := by
  have h1 : (es.map (fun e => (e.key, e.val)))[j]? = some (e.key, e.val) := by simp [hj]
  rw [he] at h1
  simp only [List.getElem?_map, Option.map_eq_some_iff] at h1
  obtain ⟨p, hp, e1⟩ := h1
  simp only [Prod.mk.injEq] at e1
  exact ⟨p, hp, e1.1.symm, e1.2.symm⟩

/-- Where a key stands among the entries. -/
theorem ents_find {es : Array MapEntry} {clock : Nat} {m0 : List (κ × α)} (hs : Stamped es clock) (he : es.toList.map (fun e => (e.key, e.val)) = m0.map (fun p => (K.enc p.1, V p.2))) (k : κ) :
    (look m0 k = none ∧ Instr.findNow K.desc (K.enc k) es.toList 0 = some none ∧ ∀ x ∈ es.toList, x.key ≠ K.enc k) ∨
    ∃ j e a, look m0 k = some a ∧ Instr.findNow K.desc (K.enc k) es.toList 0 = some (some (j, V a)) ∧ es.toList[j]? = some e ∧ m0[j]? = some (k, a) ∧ e.key = K.enc k := by
  rcases findNow_spec (K.key k) es.toList 0 (ents_isKey he) with ⟨h1, h2⟩ | ⟨j, e, h1, h2, h3⟩
  · refine .inl ⟨?_, h1, h2⟩
    rw [look_none]
    intro p hp e
    have h4 : K.enc p.1 ∈ es.toList.map (·.key) := by rw [ents_keys he]; exact List.mem_map.2 ⟨p.1, List.mem_map.2 ⟨p, hp, rfl⟩, rfl⟩
    obtain ⟨x, hx, e1⟩ := List.mem_map.1 h4
    exact h2 x hx (by rw [e1, e])
  · obtain ⟨p, hp, e1, e2⟩ := ents_get he h2
    have hk : p.1 = k := K.inj _ _ (e1.symm.trans h3)
    have hm : p = (k, p.2) := by rw [← hk]
    refine .inr ⟨j, e, p.2, ?_, by rw [← e2]; simpa using h1, h2, by rw [hp, hm], h3⟩
    rw [look_some (ents_nodup hs he), ← hm]
    exact List.mem_of_getElem? hp

theorem run_lookup {P : Program} {t kt et : TypeId} (h : MapIs K V w r m) (ht : P.underlying t = some (.map kt et)) (hk : P.underlying kt = some K.desc) {z : Value} (hz : (zeroValue et).run P w = .ok z w) (k : κ) :
    (Instr.lookup t (.map (some r)) (K.enc k) false).run P w = .ok (((look m k).map V).getD z) w := by
  obtain ⟨es, clock, m0, hb, hs, he, hm⟩ := h
  rw [← look_perm hm (ents_nodup hs he)]
  rcases ents_find hs he k with ⟨h0, h1, h2⟩ | ⟨j, e, a, h0, h1, h2, h3, h4⟩
  · simp [Instr.lookup, run_underlying ht, MapKept.run_getObj_map hb, run_checkKey hk (K.key k), run_findKey hk h1, hz, h0, Result.andThen]
  · simp [Instr.lookup, run_underlying ht, MapKept.run_getObj_map hb, run_checkKey hk (K.key k), run_findKey hk h1, h0, Result.andThen]
theorem run_lookup_ok {P : Program} {t kt et : TypeId} (h : MapIs K V w r m) (ht : P.underlying t = some (.map kt et)) (hk : P.underlying kt = some K.desc) {z : Value} (hz : (zeroValue et).run P w = .ok z w) (k : κ) :
    (Instr.lookup t (.map (some r)) (K.enc k) true).run P w = .ok (.tuple #[((look m k).map V).getD z, .bool (look m k).isSome]) w := by
  obtain ⟨es, clock, m0, hb, hs, he, hm⟩ := h
  rw [← look_perm hm (ents_nodup hs he)]
  rcases ents_find hs he k with ⟨h0, h1, h2⟩ | ⟨j, e, a, h0, h1, h2, h3, h4⟩
  · simp [Instr.lookup, run_underlying ht, MapKept.run_getObj_map hb, run_checkKey hk (K.key k), run_findKey hk h1, hz, h0, Result.andThen]
  · simp [Instr.lookup, run_underlying ht, MapKept.run_getObj_map hb, run_checkKey hk (K.key k), run_findKey hk h1, h0, Result.andThen]

def setObjW (w : World) (r : Nat) (o : Obj) : World := { w with heap := w.heap.setIfInBounds r o }
theorem upd_setObjW (w : World) (r : Nat) (o : Obj) : Upd (· = r) w (setObjW w r o) :=
  ⟨rfl, rfl, rfl, by simp [setObjW], fun k _ hn => by simp [setObjW, Ne.symm hn]⟩

omit [DecidableEq κ] in
theorem split_at {l : List (κ × α)} {j : Nat} {p : κ × α} (h : l[j]? = some p) : l = l.take j ++ p :: l.drop (j + 1) := by
  have hj := (List.getElem?_eq_some_iff.1 h)
  obtain ⟨hlt, e⟩ := hj
  rw [← e, List.getElem_cons_drop]; simp
theorem del_split {l : List (κ × α)} {j : Nat} {k : κ} {a : α} (h : l[j]? = some (k, a)) (hn : (l.map Prod.fst).Nodup) : del l k = l.take j ++ l.drop (j + 1) := by
  have e := split_at h
  have hn' := hn
  rw [e] at hn'
  simp only [List.map_append, List.map_cons, List.nodup_append, List.nodup_cons] at hn'
  have h1 : del (l.take j) k = l.take j := del_of_none (look_none.2 fun p hp hk => hn'.2.2 p.1 (List.mem_map.2 ⟨p, hp, rfl⟩) k (by simp) hk)
  have h2 : del (l.drop (j + 1)) k = l.drop (j + 1) := del_of_none (look_none.2 fun p hp hk => hn'.2.1.1 (by rw [← hk]; exact List.mem_map.2 ⟨p, hp, rfl⟩))
  conv => lhs; rw [e]
  unfold del at h1 h2 ⊢
  rw [List.filter_append, List.filter_cons_of_neg (by simp), h1, h2]

theorem run_mapUpdate {P : Program} {t kt et : TypeId} (h : MapIs K V w r m) (ht : P.underlying t = some (.map kt et)) (hk : P.underlying kt = some K.desc) (k : κ) (a : α) :
    ∃ w', (Instr.mapUpdate t (.map (some r)) (K.enc k) (V a)).run P w = .ok () w' ∧ MapIs K V w' r (put m k a) ∧ Upd (· = r) w w' := by
  obtain ⟨es, clock, m0, hb, hs, he, hm⟩ := h
  have hnd := ents_nodup hs he
  rcases ents_find hs he k with ⟨h0, h1, h2⟩ | ⟨j, e, b, h0, h1, h2, h3, h4⟩
  · refine ⟨setObjW w r (.map (es.push { key := K.enc k, val := V a, born := clock }) (clock + 1)), ?_, ⟨_, _, m0 ++ [(k, a)], (heap_set hb).1, stamped_push hs h2, by simp [he], ?_⟩, upd_setObjW _ _ _⟩
    · simp [Instr.mapUpdate, run_underlying ht, MapKept.run_getObj_map hb, run_checkKey hk (K.key k), run_findKey hk h1, run_setObj_map _ hb, setObjW, Result.andThen]
    · refine List.Perm.trans ?_ (put_perm hm k a)
      unfold put
      rw [del_of_none h0]
      exact List.perm_append_comm
  · have hj : es[j]? = some e := by simpa using h2
    have hkey : ∀ e', es[j]? = some e' → ({ e' with key := K.enc k, val := V a } : MapEntry).key = e'.key := fun e' he' => by rw [hj] at he'; cases he'; exact h4.symm
    refine ⟨setObjW w r (.map (es.modify j fun e => { e with key := K.enc k, val := V a }) clock), ?_, ⟨_, _, m0.set j (k, a), (heap_set hb).1, stamped_modify hs _ _ (fun _ _ => rfl) (fun e' _ he' => hkey e' he'), ?_, ?_⟩, upd_setObjW _ _ _⟩
    · simp [Instr.mapUpdate, run_underlying ht, MapKept.run_getObj_map hb, run_checkKey hk (K.key k), run_findKey hk h1, hj, h4, run_keyThatStays (K.key k), run_setObj_map _ hb, setObjW, Result.andThen]
    · apply List.ext_getElem?
      intro i
      have hei := congrArg (fun l => l[i]?) he
      simp only [List.getElem?_map] at hei
      simp only [List.getElem?_map, Array.toList_modify, List.getElem?_modify, List.getElem?_set]
      by_cases hij : j = i
      · subst hij
        have hlt : j < m0.length := (List.getElem?_eq_some_iff.1 h3).1
        simp [h2, hlt]
      · simpa [hij] using hei
    · refine List.Perm.trans ?_ (put_perm hm k a)
      unfold put
      have hlt : j < m0.length := (List.getElem?_eq_some_iff.1 h3).1
      rw [del_split h3 hnd, List.set_eq_take_append_cons_drop, if_pos hlt]
      exact List.perm_middle
end maps
end Go.Proofs.YtdcjhpafipbpkaaGreatDoor
namespace Go.Proofs.YtdcjhpafipbpkaaGreatDoor
set_option maxRecDepth 100000
open Go.RowKit

def pad (s : ByteArray) : ByteArray := ⟨(s.data.toList ++ List.replicate (512 - s.size) 0).toArray⟩
theorem ret_strL {a b : ByteArray} (h : a = b) : Ending.returned (.string a) = .returned (.string b) := by rw [h]
theorem repeat_zero (n : Nat) : Lib.repeatL [(0 : UInt8)] n = List.replicate n 0 := by
  induction n with
  | zero => rfl
  | succ n ih => simp [Lib.repeatL, ih, List.replicate_succ]

set_option maxHeartbeats 400000 in
theorem full_any (s : ByteArray) (w : World) (h : s.size ≤ 512) :
    Calls Tryz.prog 153 #[.string s] w fun e w' => e = .returned (.string (pad s)) ∧ Below w.heap.size w w' := by
  obtain ⟨n, hn⟩ : ∃ n : Nat, n = 512 - s.size := ⟨_, rfl⟩
  have e : (512 - (s.size : Int)) = (n : Int) := by omega
  have Hn := Lib.hid hn
  have He := Lib.hid e
  clear hn e
  go_enter Tryz.func153, Tryz.ntmps153
  go_wp2_with fail
  rw [He.out]
  have h1 := Hn.out
  refine (Tryz.strings_Repeat _ n w (by omega) (show 1 * n ≤ _ by omega)).mono ?_
  rintro e w1 ⟨rfl, hb⟩
  generalize hz : ByteArray.mk (Lib.repeatL _ n).toArray = z
  rw [show (({ data := #[0] } : ByteArray).data.toList) = [0] from rfl, repeat_zero, h1] at hz
  have hs : z.size ≤ 512 := by rw [← hz]; show (List.replicate (512 - s.size) (0 : UInt8)).toArray.size ≤ 512; rw [List.size_toArray, List.length_replicate]; omega
  have Hz := Lib.hid hz
  clear h1 hz
  go_wp2_with fail
  go_ret
  refine ⟨ret_strL ?_, hb⟩
  unfold pad
  rw [← Hz.out]
  apply ByteArray.ext
  simp

/-- A disk, as the code holds it. -/
structure Dk where
  size : Int
  firm : List (Int × ByteArray)
  loose : List (Int × ByteArray)
  now : List (Int × ByteArray)
  fuel : Int
  bound : Bool
  down : Bool
def dkCells (D : Dk) (mf mn : Nat) (lv : Value) : Array Value :=
  #[.int .i64 D.size, .map (some mf), lv, .map (some mn), .int .i64 D.fuel, .bool D.bound, .bool D.down]
def wrs (l : List (Int × ByteArray)) : List Value := l.flatMap fun p => [.int .i64 p.1, .string p.2]

structure DkWf (D : Dk) : Prop where
  size0 : 0 ≤ D.size
  size1 : D.size ≤ 65536
  fuel0 : -9223372036854775808 ≤ D.fuel
  fuel1 : D.fuel ≤ 9223372036854775807
  fuel2 : D.bound = true → 0 ≤ D.fuel
  nowSub : ∀ k s, look D.now k = some s → s.size = 512
  firmSub : ∀ k s, look D.firm k = some s → s.size = 512
structure IsDk (w : World) (F : Nat → Prop) (b : Nat) (D : Dk) (mf mn : Nat) (lv : Value) : Prop where
  cells : w.heap[b]? = some (.cells (dkCells D mf mn lv) 199 (0, 0))
  firm : MapIs kInt Value.string w mf D.firm
  now : MapIs kInt Value.string w mn D.now
  loose : w.ownsRow 0 367 2 lv D.loose.length (wrs D.loose)
  ne : mf ≠ mn
  own : ∀ k, F k ↔ k = b ∨ k = mf ∨ k = mn ∨ lv.ownBlock = some k
  wf : DkWf D
theorem IsDk.c {w : World} {F : Nat → Prop} {b : Nat} {D : Dk} {mf mn : Nat} {lv : Value} (h : IsDk w F b D mf mn lv) :
    w.cell? ⟨b, 0, none⟩ = some (.int .i64 D.size) ∧ w.cell? ⟨b, 1, none⟩ = some (.map (some mf)) ∧ w.cell? ⟨b, 2, none⟩ = some lv ∧ w.cell? ⟨b, 3, none⟩ = some (.map (some mn)) ∧
      w.cell? ⟨b, 4, none⟩ = some (.int .i64 D.fuel) ∧ w.cell? ⟨b, 5, none⟩ = some (.bool D.bound) ∧ w.cell? ⟨b, 6, none⟩ = some (.bool D.down) :=
  ⟨cell_lit h.cells rfl, cell_lit h.cells rfl, cell_lit h.cells rfl, cell_lit h.cells rfl, cell_lit h.cells rfl, cell_lit h.cells rfl, cell_lit h.cells rfl⟩

theorem Down_c (b : Nat) (x : Bool) (w : World) (h : w.cell? ⟨b, 6, none⟩ = some (.bool x)) : Calls Tryz.prog 108 #[.pointer (some ⟨b, 0, none⟩)] w fun e w' => e = .returned (.bool x) ∧ w = w' := by
  go_enter Tryz.func108, Tryz.ntmps108
  go_wp2
  go_ret
  exact ⟨rfl, rfl⟩
theorem MapIs.ne_cells {κ α : Type} [DecidableEq κ] {K : KEnc κ} {V : α → Value} {w : World} {r : Nat} {m : List (κ × α)} (h : MapIs K V w r m) {b : Nat} {cs : Array Value} {T : TypeId} {fr : Nat × Nat} (hb : w.heap[b]? = some (.cells cs T fr)) : r ≠ b := by
  obtain ⟨es, clock, m0, h1, _⟩ := h
  intro e; subst e; rw [h1] at hb; cases hb
theorem IsDk.nn {w : World} {F : Nat → Prop} {b : Nat} {D : Dk} {mf mn : Nat} {lv : Value} (h : IsDk w F b D mf mn lv) : mn ≠ b := h.now.ne_cells h.cells
theorem ownsRow_cells {w : World} {base : Nat} {e : TypeId} {size : Nat} {v : Value} {n : Nat} {xs : List Value} (h : w.ownsRow base e size v n xs) {k : Nat} (hk : v.ownBlock = some k) : ∃ cur, w.heap[k]? = some (.cells cur e (0, 0)) := by
  rcases h.2 with ⟨rfl, _⟩ | ⟨g, cap, cur, rfl, _, hg, _⟩
  · simp [Value.ownBlock] at hk
  · simp [Value.ownBlock] at hk; subst hk; exact ⟨cur, hg⟩
theorem ownsRow_upd {w w' : World} {S : Nat → Prop} {base : Nat} {e : TypeId} {size : Nat} {v : Value} {n : Nat} {xs : List Value} (h : w.ownsRow base e size v n xs) (hu : Upd S w w') (hn : ∀ k, v.ownBlock = some k → ¬ S k) : w'.ownsRow base e size v n xs := by
  refine ⟨h.1, ?_⟩
  rcases h.2 with h2 | ⟨g, cap, cur, rfl, hg, hh, r⟩
  · exact Or.inl h2
  · exact Or.inr ⟨g, cap, cur, rfl, hg, hu.at hh (hn g rfl), r⟩
theorem IsDk.frame {w w' : World} {S F : Nat → Prop} {b : Nat} {D : Dk} {mf mn : Nat} {lv : Value} (h : IsDk w F b D mf mn lv) (hu : Upd S w w') (hn : ∀ k, F k → ¬ S k) : IsDk w' F b D mf mn lv :=
  ⟨hu.at h.cells (hn b ((h.own b).2 (.inl rfl))), h.firm.upd hu (hn mf ((h.own mf).2 (.inr (.inl rfl)))), h.now.upd hu (hn mn ((h.own mn).2 (.inr (.inr (.inl rfl))))),
   ownsRow_upd h.loose hu (fun k hk => hn k ((h.own k).2 (.inr (.inr (.inr hk))))), h.ne, h.own, h.wf⟩
theorem IsDk.lt {w : World} {F : Nat → Prop} {b : Nat} {D : Dk} {mf mn : Nat} {lv : Value} (h : IsDk w F b D mf mn lv) : ∀ k, F k → k < w.heap.size := by
  intro k hk
  rcases (h.own k).1 hk with rfl | rfl | rfl | hk
  · exact lt_of_heap h.cells
  · exact h.firm.lt
  · exact h.now.lt
  · exact (h.loose.lt k hk).2
theorem _root_.Go.RowKit.Below.upd' {B : Nat} {w w' : World} (h : Below B w w') (hB : w.heap.size ≤ B) : Upd (fun _ => False) w w' := ⟨h.os, h.tape, h.output, h.size, fun k hk _ => h.block k (by omega)⟩

theorem Size_c (b : Nat) (n : Int) (w : World) (h : w.cell? ⟨b, 0, none⟩ = some (.int .i64 n)) : Calls Tryz.prog 107 #[.pointer (some ⟨b, 0, none⟩)] w fun e w' => e = .returned (.int .i64 n) ∧ w = w' := by
  go_enter Tryz.func107, Tryz.ntmps107
  go_wp2
  go_ret
  exact ⟨rfl, rfl⟩

/-- What a read answers. -/
def dkRead (D : Dk) (i : Int) : ByteArray × Int :=
  if D.down = true then (ByteArray.empty, 3) else if i < 0 ∨ D.size ≤ i then (ByteArray.empty, 2) else
  match look D.now i with
  | some s => (s, 0)
  | none => match look D.firm i with
    | some s => (s, 0)
    | none => (pad ByteArray.empty, 0)
theorem zeroStr (w : World) : (zeroValue 9).run Tryz.prog w = .ok (.string ByteArray.empty) w := by kernel_rfl
def Two (a : ByteArray) (b : Int) : Ending := .returned (.tuple #[.string a, .int .i64 b])

set_option maxHeartbeats 400000 in
theorem Read_c (b : Nat) (D : Dk) (F : Nat → Prop) (mf mn : Nat) (lv : Value) (i : Int) (w : World) (h : IsDk w F b D mf mn lv) :
    Calls Tryz.prog 109 #[.pointer (some ⟨b, 0, none⟩), .int .i64 i] w fun e w' => e = Two (dkRead D i).1 (dkRead D i).2 ∧ Below w.heap.size w w' := by
  obtain ⟨c0, c1, c2, c3, c4, c5, c6⟩ := h.c
  have l1 := run_lookup_ok h.now Tryz.underlying196 Tryz.underlying3 (zeroStr w) i
  have l2 := run_lookup_ok h.firm Tryz.underlying196 Tryz.underlying3 (zeroStr w) i
  rcases D with ⟨sz, firm, loose, now, fuel, bound, down⟩
  simp only at c0 c1 c2 c3 c4 c5 c6 l1 l2
  clear h c2 c4 c5
  cases down
  · by_cases hi : i < 0 ∨ sz ≤ i
    · have e1 : dkRead ⟨sz, firm, loose, now, fuel, bound, false⟩ i = (ByteArray.empty, 2) := by simp [dkRead, hi]
      rw [e1]
      clear e1 l1 l2 c1 c3
      rcases hi with hi | hi
      · go_enter Tryz.func109, Tryz.ntmps109
        go_wp2
        go_ret2
        exact ⟨rfl, Below.refl _ _⟩
      · by_cases h0 : i < 0
        · go_enter Tryz.func109, Tryz.ntmps109
          go_wp2
          go_ret2
          exact ⟨rfl, Below.refl _ _⟩
        · go_enter Tryz.func109, Tryz.ntmps109
          go_wp2
          go_ret2
          exact ⟨rfl, Below.refl _ _⟩
    · have i0 : 0 ≤ i := by omega
      have i1 : i < sz := by omega
      have e1 : dkRead ⟨sz, firm, loose, now, fuel, bound, false⟩ i = (match look now i with | some s => (s, 0) | none => match look firm i with | some s => (s, 0) | none => (pad ByteArray.empty, 0)) := by simp [dkRead, hi]
      rw [e1]
      clear e1 hi
      cases hn : look now i with
      | some s =>
        rw [hn] at l1
        simp only [Option.map_some, Option.getD_some, Option.isSome_some, kInt] at l1
        clear hn l2 c1
        go_enter Tryz.func109, Tryz.ntmps109
        go_wp2
        go_ret2
        exact ⟨rfl, Below.refl _ _⟩
      | none =>
        rw [hn] at l1
        simp only [Option.map_none, Option.getD_none, Option.isSome_none, kInt] at l1
        cases hf : look firm i with
        | some s =>
          rw [hf] at l2
          simp only [Option.map_some, Option.getD_some, Option.isSome_some, kInt] at l2
          clear hn hf
          go_enter Tryz.func109, Tryz.ntmps109
          go_wp2
          go_ret2
          exact ⟨rfl, Below.refl _ _⟩
        | none =>
          rw [hf] at l2
          simp only [Option.map_none, Option.getD_none, Option.isSome_none, kInt] at l2
          clear hn hf
          go_enter Tryz.func109, Tryz.ntmps109
          go_wp2_with (first | (go_at_call 108; refine (Down_c _ _ _ c6).mono ?_; rintro e w' ⟨rfl, rfl⟩) | (go_at_call 153; refine (full_any _ _ ?_).mono ?_; (decide); rintro e w1 ⟨rfl, hb⟩))
          go_ret2
          exact ⟨rfl, hb⟩
  · have e1 : dkRead ⟨sz, firm, loose, now, fuel, bound, true⟩ i = (ByteArray.empty, 3) := by simp [dkRead]
    rw [e1]
    clear e1 l1 l2 c1 c3
    go_enter Tryz.func109, Tryz.ntmps109
    go_wp2
    go_ret2
    exact ⟨rfl, Below.refl _ _⟩
def dkNew (n : Int) : Dk := ⟨n, [], [], [], 0, false, false⟩
end Go.Proofs.YtdcjhpafipbpkaaGreatDoor
