/- Parts of the proof of ChunksRuns,joined: Shelf,LogA,LogB,LogC. No condition. -/
import Derived.Test.YtdcjhpafipbpkaaGreatDoorCx1
import Derived.Shelf.Strings.Builder1
import Derived.Shelf.Strings.Builder2
import Derived.Shelf.Strings.Trim
import Derived.Shelf.Small.Utf8
import Derived.Shelf.Small.Bits
import Derived.Shelf.Small.Strs
import Derived.Shelf.Small.Wraps
import Derived.Shelf.Strings.BuilderF
import Derived.Shelf.Strings.BuilderK
import Derived.Shelf.Strings.Builder2Cap
import Derived.Shelf.Strconv.Itoa0
import Derived.Shelf.Strings.Search1
import Derived.Shelf.Sort.Plain
import Derived.Shelf.Strings.Prefix
import Derived.Shelf.Strings.Runes
import Derived.Shelf.Strings.AsciiSet
import Derived.Shelf.Bits.Mul64
import Derived.Shelf.Strings.Repeat
import Derived.Shelf.Unicode.DecodeSlow
import Derived.Shelf.Strings.BuilderCap
import Derived.Shelf.Slices.Reverse
import Derived.Ground.Names2Prog
import Derived.Shelf.Slices.ReverseS
import Derived.Shelf.Slices.Clone
import Derived.Shelf.Slices.SearchI
import Derived.Shelf.Slices.Delete
import Derived.Shelf.Slices.Cells
import Derived.Shelf.Slices.In.SortNone
import Derived.Shelf.Slices.Empties
import Derived.Test.YtdcjhpafipbpkaaGreatDoorProg
import Derived.WalkSpells
import Derived.WalkLawsBesides
import Derived.Deep.RegionHeld3
import Derived.Deep.AppendLies
import Derived.Deep.DrawnRows
set_option linter.unusedSimpArgs false
set_option linter.unusedVariables false
set_option linter.unusedSectionVars false
namespace Go.Proofs
open Go.Shelf
def Tryz.lays169_ren:Go.Shelf.Ren:=⟨fun | 169=>83 | n=>n,fun | 70=>154 | 9=>9 | 0=>0 | 72=>156 | 37=>91 | 127=>235 | 3=>3 | 5=>5 | n=>n,fun | n=>n⟩
theorem Tryz.lays169:Go.Proofs.Lays.n169 Tryz.prog Tryz.lays169_ren:={
 mixed:=by kernel_rfl
 f169:=Tryz.func83.trans (congrArg some (by kernel_rfl))
 t0:=Tryz.underlying0
 a0:=Tryz.isAgg0
 z0:=Tryz.sizeOf0
 v0:=Tryz.zeroValue0
 t3:=Tryz.underlying3
 a3:=Tryz.isAgg3
 z3:=Tryz.sizeOf3
 v3:=Tryz.zeroValue3
 t9:=Tryz.underlying9
 a9:=Tryz.isAgg9
 z9:=Tryz.sizeOf9
 v9:=Tryz.zeroValue9
 t37:=Tryz.underlying91
 a37:=Tryz.isAgg91
 z37:=Tryz.sizeOf91
 v37:=Tryz.zeroValue91
 t70:=Tryz.underlying154
 a70:=Tryz.isAgg154
 z70:=Tryz.sizeOf154
 v70:=Tryz.zeroValue154
 t72:=Tryz.underlying156
 a72:=Tryz.isAgg156
 z72:=Tryz.sizeOf156
 v72:=Tryz.zeroValue156
 t127:=Tryz.underlying235
 a127:=Tryz.isAgg235
 z127:=Tryz.sizeOf235
 v127:=Tryz.zeroValue235 }
theorem Tryz.Builder_Extra_169:Builder.Extra Tryz.prog Tryz.lays169_ren:={
 sizeBuilder:=by kernel_rfl
 liesBuilder:=by kernel_rfl
 t5:=Tryz.underlying5
 a5:=Tryz.isAgg5
 z5:=Tryz.sizeOf5
 v5:=Tryz.zeroValue5
 infoByte:=by kernel_rfl
 cellsByte:=by kernel_rfl
 sizeByte:=by kernel_rfl
 neB5:=by decide }
def Tryz.lays160_ren:Go.Shelf.Ren:=⟨fun | 160=>110 | 232=>155 | 231=>154 | 227=>156 | 234=>158 | 233=>157 | 236=>160 | 235=>159 | 228=>199 | 271=>202 | 151=>201 | 197=>200 | 120=>248 | 152=>247 | 260=>246 | 137=>272 | 119=>273 | 224=>274 | 225=>275 | 217=>280 | 266=>283 | n=>n,fun | 9=>9 | 4=>4 | 3=>3 | 5=>5 | 117=>247 | 116=>246 | 0=>0 | 124=>250 | 21=>21 | 105=>282 | 46=>215 | 119=>343 | 139=>346 | 138=>345 | n=>n,fun | 3=>0 | 4=>1 | n=>n⟩
theorem Tryz.lays160:Go.Proofs.Lays.n160 Tryz.prog Tryz.lays160_ren:={
 mixed:=by kernel_rfl
 f119:=Tryz.func273.trans (congrArg some (by kernel_rfl))
 f120:=Tryz.func248.trans (congrArg some (by kernel_rfl))
 f137:=Tryz.func272.trans (congrArg some (by kernel_rfl))
 f151:=Tryz.func201.trans (congrArg some (by kernel_rfl))
 f152:=Tryz.func247.trans (congrArg some (by kernel_rfl))
 f160:=Tryz.func110.trans (congrArg some (by kernel_rfl))
 f197:=Tryz.func200.trans (congrArg some (by kernel_rfl))
 f217:=Tryz.func280.trans (congrArg some (by kernel_rfl))
 f224:=Tryz.func274.trans (congrArg some (by kernel_rfl))
 f225:=Tryz.func275.trans (congrArg some (by kernel_rfl))
 f227:=Tryz.func156.trans (congrArg some (by kernel_rfl))
 f228:=Tryz.func199.trans (congrArg some (by kernel_rfl))
 f231:=Tryz.func154.trans (congrArg some (by kernel_rfl))
 f232:=Tryz.func155.trans (congrArg some (by kernel_rfl))
 f233:=Tryz.func157.trans (congrArg some (by kernel_rfl))
 f234:=Tryz.func158.trans (congrArg some (by kernel_rfl))
 f235:=Tryz.func159.trans (congrArg some (by kernel_rfl))
 f236:=Tryz.func160.trans (congrArg some (by kernel_rfl))
 f260:=Tryz.func246.trans (congrArg some (by kernel_rfl))
 f266:=Tryz.func283.trans (congrArg some (by kernel_rfl))
 f271:=Tryz.func202.trans (congrArg some (by kernel_rfl))
 t0:=Tryz.underlying0
 a0:=Tryz.isAgg0
 z0:=Tryz.sizeOf0
 v0:=Tryz.zeroValue0
 t3:=Tryz.underlying3
 a3:=Tryz.isAgg3
 z3:=Tryz.sizeOf3
 v3:=Tryz.zeroValue3
 t4:=Tryz.underlying4
 a4:=Tryz.isAgg4
 z4:=Tryz.sizeOf4
 v4:=Tryz.zeroValue4
 t5:=Tryz.underlying5
 a5:=Tryz.isAgg5
 z5:=Tryz.sizeOf5
 v5:=Tryz.zeroValue5
 t9:=Tryz.underlying9
 a9:=Tryz.isAgg9
 z9:=Tryz.sizeOf9
 v9:=Tryz.zeroValue9
 t21:=Tryz.underlying21
 a21:=Tryz.isAgg21
 z21:=Tryz.sizeOf21
 v21:=Tryz.zeroValue21
 t46:=Tryz.underlying215
 a46:=Tryz.isAgg215
 z46:=Tryz.sizeOf215
 v46:=Tryz.zeroValue215
 t105:=Tryz.underlying282
 a105:=Tryz.isAgg282
 z105:=Tryz.sizeOf282
 v105:=Tryz.zeroValue282
 t116:=Tryz.underlying246
 a116:=Tryz.isAgg246
 z116:=Tryz.sizeOf246
 t117:=Tryz.underlying247
 a117:=Tryz.isAgg247
 z117:=Tryz.sizeOf247
 v117:=Tryz.zeroValue247
 t119:=Tryz.underlying343
 a119:=Tryz.isAgg343
 z119:=Tryz.sizeOf343
 t124:=Tryz.underlying250
 a124:=Tryz.isAgg250
 z124:=Tryz.sizeOf250
 v124:=Tryz.zeroValue250
 t138:=Tryz.underlying345
 a138:=Tryz.isAgg345
 z138:=Tryz.sizeOf345
 v138:=Tryz.zeroValue345
 t139:=Tryz.underlying346
 a139:=Tryz.isAgg346
 z139:=Tryz.sizeOf346
 v139:=Tryz.zeroValue346
 g3:=by kernel_rfl
 g4:=by kernel_rfl }
open Go.RowKit in
theorem Tryz.strings_Trim_one (s:ByteArray) (c:UInt8) (hc:c.toNat < 128) (w:World) (hs:s.size <= 9223372036854775807) :
 Calls Tryz.prog 110 #[.string s,.string ⟨#[c]⟩] w fun e w'=>e=.returned (.string ⟨(Lib.trimB s.data.toList c).toArray⟩) /\ (w'=w \/ w'=w.drew):=Any.strings_Trim_one Tryz.lays160 s c hc w hs
def Tryz.lays135_ren:Go.Shelf.Ren:=⟨fun | 135=>106 | n=>n,fun | 5=>5 | 3=>3 | 9=>9 | n=>n,fun | n=>n⟩
theorem Tryz.lays135:Go.Proofs.Lays.n135 Tryz.prog Tryz.lays135_ren:={
 mixed:=by kernel_rfl
 f135:=Tryz.func106.trans (congrArg some (by kernel_rfl))
 t3:=Tryz.underlying3
 a3:=Tryz.isAgg3
 z3:=Tryz.sizeOf3
 v3:=Tryz.zeroValue3
 t5:=Tryz.underlying5
 a5:=Tryz.isAgg5
 z5:=Tryz.sizeOf5
 v5:=Tryz.zeroValue5
 t9:=Tryz.underlying9
 a9:=Tryz.isAgg9
 z9:=Tryz.sizeOf9
 v9:=Tryz.zeroValue9 }
theorem Tryz.bits_OnesCount8 (x:Int) (w:World) (h0:0 <= x) (h1:x <= 255) :
 Calls Tryz.prog 106 #[.int .u8 x] w fun e w'=>e=.returned (.int .i64 (Lib.onesCount x.toNat)) /\ w'=w:=Any.bits_OnesCount8 Tryz.lays135 x w h0 h1
def Tryz.lays136_ren:Go.Shelf.Ren:=⟨fun | 136=>144 | n=>n,fun | 5=>5 | 3=>3 | 9=>9 | n=>n,fun | n=>n⟩
theorem Tryz.lays136:Go.Proofs.Lays.n136 Tryz.prog Tryz.lays136_ren:={
 mixed:=by kernel_rfl
 f136:=Tryz.func144.trans (congrArg some (by kernel_rfl))
 t3:=Tryz.underlying3
 a3:=Tryz.isAgg3
 z3:=Tryz.sizeOf3
 v3:=Tryz.zeroValue3
 t5:=Tryz.underlying5
 a5:=Tryz.isAgg5
 z5:=Tryz.sizeOf5
 v5:=Tryz.zeroValue5
 t9:=Tryz.underlying9
 a9:=Tryz.isAgg9
 z9:=Tryz.sizeOf9
 v9:=Tryz.zeroValue9 }
theorem Tryz.bits_TrailingZeros8 (x:Int) (w:World) (h0:0 <= x) (h1:x <= 255) :
 Calls Tryz.prog 144 #[.int .u8 x] w fun e w'=>e=.returned (.int .i64 (Lib.trailingZeros8 x.toNat)) /\ w'=w:=Any.bits_TrailingZeros8 Tryz.lays136 x w h0 h1
open Go.RowKit in
theorem Tryz.Builder_String_any_k (B b:Nat) (l:List UInt8) (w:World) (h:Lib.IsBuilderF 156 5 B b (Lib.byteCells l) w) (hBw:B <= w.heap.size) :
 Calls Tryz.prog 83 #[.pointer (some ⟨b,0,none⟩)] w fun e w'=>e=.returned (.string ⟨l.toArray⟩) /\ (Lib.IsBuilderF 156 5 B b (Lib.byteCells l) w' /\ Below B w w' /\ Lib.OthersKept 5 (some b) w w'):=Any.Builder_String_any_k Tryz.lays169 Tryz.Builder_Extra_169 B b l w h hBw
def Tryz.lays102_ren:Go.Shelf.Ren:=⟨fun | 102=>175 | 209=>211 | 207=>254 | n=>n,fun | 9=>9 | 4=>4 | 3=>3 | n=>n,fun | n=>n⟩
theorem Tryz.lays102:Go.Proofs.Lays.n102 Tryz.prog Tryz.lays102_ren:={
 mixed:=by kernel_rfl
 f102:=Tryz.func175.trans (congrArg some (by kernel_rfl))
 f207:=Tryz.func254.trans (congrArg some (by kernel_rfl))
 f209:=Tryz.func211.trans (congrArg some (by kernel_rfl))
 t3:=Tryz.underlying3
 a3:=Tryz.isAgg3
 z3:=Tryz.sizeOf3
 v3:=Tryz.zeroValue3
 t4:=Tryz.underlying4
 a4:=Tryz.isAgg4
 z4:=Tryz.sizeOf4
 v4:=Tryz.zeroValue4
 t9:=Tryz.underlying9
 a9:=Tryz.isAgg9
 z9:=Tryz.sizeOf9
 v9:=Tryz.zeroValue9 }
open Go.RowKit Go.Lib in
theorem Tryz.strings_TrimSuffix (s p:ByteArray) (w:World) (hs:s.size <= 9223372036854775807) :
 Calls Tryz.prog 175 #[.string s,.string p] w fun e w'=>e=.returned (.string ⟨(Lib.trimSuffix s.data.toList p.data.toList).toArray⟩) /\ w'=w:=Any.strings_TrimSuffix Tryz.lays102 s p w hs
def Tryz.lays105_ren:Go.Shelf.Ren:=⟨fun | 105=>147 | 212=>190 | 99=>191 | 165=>192 | 166=>82 | 170=>170 | 169=>83 | 263=>226 | 264=>227 | 206=>228 | 240=>140 | 241=>229 | 276=>188 | 277=>263 | n=>n,fun | 9=>9 | 3=>3 | 4=>4 | 20=>20 | 0=>0 | 46=>215 | 109=>273 | 5=>5 | 72=>156 | 76=>160 | 51=>206 | 146=>307 | 53=>134 | 148=>309 | 70=>154 | 37=>91 | 75=>159 | 127=>235 | 164=>271 | 80=>163 | n=>n,fun | n=>n⟩
theorem Tryz.lays105:Go.Proofs.Lays.n105 Tryz.prog Tryz.lays105_ren:={
 mixed:=by kernel_rfl
 f99:=Tryz.func191.trans (congrArg some (by kernel_rfl))
 f105:=Tryz.func147.trans (congrArg some (by kernel_rfl))
 f165:=Tryz.func192.trans (congrArg some (by kernel_rfl))
 f166:=Tryz.func82.trans (congrArg some (by kernel_rfl))
 f169:=Tryz.func83.trans (congrArg some (by kernel_rfl))
 f170:=Tryz.func170.trans (congrArg some (by kernel_rfl))
 f206:=Tryz.func228.trans (congrArg some (by kernel_rfl))
 f212:=Tryz.func190.trans (congrArg some (by kernel_rfl))
 f240:=Tryz.func140.trans (congrArg some (by kernel_rfl))
 f241:=Tryz.func229.trans (congrArg some (by kernel_rfl))
 f263:=Tryz.func226.trans (congrArg some (by kernel_rfl))
 f264:=Tryz.func227.trans (congrArg some (by kernel_rfl))
 f276:=Tryz.func188.trans (congrArg some (by kernel_rfl))
 f277:=Tryz.func263.trans (congrArg some (by kernel_rfl))
 t0:=Tryz.underlying0
 a0:=Tryz.isAgg0
 z0:=Tryz.sizeOf0
 v0:=Tryz.zeroValue0
 t3:=Tryz.underlying3
 a3:=Tryz.isAgg3
 z3:=Tryz.sizeOf3
 v3:=Tryz.zeroValue3
 t4:=Tryz.underlying4
 a4:=Tryz.isAgg4
 z4:=Tryz.sizeOf4
 v4:=Tryz.zeroValue4
 t5:=Tryz.underlying5
 a5:=Tryz.isAgg5
 z5:=Tryz.sizeOf5
 v5:=Tryz.zeroValue5
 t9:=Tryz.underlying9
 a9:=Tryz.isAgg9
 z9:=Tryz.sizeOf9
 v9:=Tryz.zeroValue9
 t20:=Tryz.underlying20
 a20:=Tryz.isAgg20
 z20:=Tryz.sizeOf20
 v20:=Tryz.zeroValue20
 t37:=Tryz.underlying91
 a37:=Tryz.isAgg91
 z37:=Tryz.sizeOf91
 v37:=Tryz.zeroValue91
 t46:=Tryz.underlying215
 a46:=Tryz.isAgg215
 z46:=Tryz.sizeOf215
 v46:=Tryz.zeroValue215
 t51:=Tryz.underlying206
 a51:=Tryz.isAgg206
 z51:=Tryz.sizeOf206
 v51:=Tryz.zeroValue206
 t53:=Tryz.underlying134
 a53:=Tryz.isAgg134
 z53:=Tryz.sizeOf134
 v53:=Tryz.zeroValue134
 t70:=Tryz.underlying154
 a70:=Tryz.isAgg154
 z70:=Tryz.sizeOf154
 v70:=Tryz.zeroValue154
 t72:=Tryz.underlying156
 a72:=Tryz.isAgg156
 z72:=Tryz.sizeOf156
 v72:=Tryz.zeroValue156
 t75:=Tryz.underlying159
 a75:=Tryz.isAgg159
 z75:=Tryz.sizeOf159
 v75:=Tryz.zeroValue159
 t76:=Tryz.underlying160
 a76:=Tryz.isAgg160
 z76:=Tryz.sizeOf160
 v76:=Tryz.zeroValue160
 t109:=Tryz.underlying273
 a109:=Tryz.isAgg273
 z109:=Tryz.sizeOf273
 v109:=Tryz.zeroValue273
 t127:=Tryz.underlying235
 a127:=Tryz.isAgg235
 z127:=Tryz.sizeOf235
 v127:=Tryz.zeroValue235
 t146:=Tryz.underlying307
 a146:=Tryz.isAgg307
 z146:=Tryz.sizeOf307
 v146:=Tryz.zeroValue307
 t148:=Tryz.underlying309
 a148:=Tryz.isAgg309
 z148:=Tryz.sizeOf309
 v148:=Tryz.zeroValue309
 t164:=Tryz.underlying271
 a164:=Tryz.isAgg271
 z164:=Tryz.sizeOf271
 v164:=Tryz.zeroValue271 }
theorem Tryz.Builder_Extra_105:Builder.Extra Tryz.prog Tryz.lays105_ren:={
 sizeBuilder:=by kernel_rfl
 liesBuilder:=by kernel_rfl
 t5:=Tryz.underlying5
 a5:=Tryz.isAgg5
 z5:=Tryz.sizeOf5
 v5:=Tryz.zeroValue5
 infoByte:=by kernel_rfl
 cellsByte:=by kernel_rfl
 sizeByte:=by kernel_rfl
 neB5:=by decide }
open Go.RowKit Go.Lib in
theorem Tryz.strings_Repeat (s:ByteArray) (c:Nat) (w:World) (hc:c <= 9223372036854775807) (hlen:s.size * c <= 140737488355328) :
 Calls Tryz.prog 147 #[.string s,.int .i64 c] w fun e w'=>e=.returned (.string ⟨(Lib.repeatL s.data.toList c).toArray⟩) /\ Below w.heap.size w w':=Any.strings_Repeat Tryz.lays105 Tryz.Builder_Extra_105 s c w hc hlen
def Tryz.laysNm215_ren:Go.Shelf.Ren:=⟨fun | 15=>216 | n=>n,fun | 22=>191 | 3=>3 | 4=>4 | n=>n,fun | n=>n⟩
theorem Tryz.laysNm215:Go.Proofs.Lays2.n15 Tryz.prog Tryz.laysNm215_ren:={
 mixed:=by kernel_rfl
 f15:=Tryz.func216.trans (congrArg some (by kernel_rfl))
 t3:=Tryz.underlying3
 a3:=Tryz.isAgg3
 z3:=Tryz.sizeOf3
 v3:=Tryz.zeroValue3
 t4:=Tryz.underlying4
 a4:=Tryz.isAgg4
 z4:=Tryz.sizeOf4
 v4:=Tryz.zeroValue4
 t22:=Tryz.underlying191
 a22:=Tryz.isAgg191
 z22:=Tryz.sizeOf191
 v22:=Tryz.zeroValue191
 i3:=by kernel_rfl }
open Go.RowKit Go.Lib in
theorem Tryz.slices_Clone_int (b off n c:Nat) (zs:List Int) (w:World) (hz:n <= zs.length) (hbig:n * 8 <= 140737488355328) (hc:∀ j,j < zs.length -> w.cell? ⟨b,off + j,none⟩=some (.int .i64 (zs.getD j 0))) :
 Calls Tryz.prog 216 #[.slice (some ⟨b,off,none⟩) n c] w fun e w'=>∃ v',e=.returned v' /\ w'.ownsRow w.heap.size 3 1 v' n ((zs.take n).map (Value.int .i64)) /\ v' ≠ .slice none 0 0 /\ Below w.heap.size w w':=Any.slices_Clone_int Tryz.laysNm215 b off n c zs w hz hbig hc
def Tryz.laysNm216_ren:Go.Shelf.Ren:=⟨fun | 16=>215 | n=>n,fun | 24=>63 | 9=>9 | 4=>4 | n=>n,fun | n=>n⟩
theorem Tryz.laysNm216:Go.Proofs.Lays2.n16 Tryz.prog Tryz.laysNm216_ren:={
 mixed:=by kernel_rfl
 f16:=Tryz.func215.trans (congrArg some (by kernel_rfl))
 t4:=Tryz.underlying4
 a4:=Tryz.isAgg4
 z4:=Tryz.sizeOf4
 v4:=Tryz.zeroValue4
 t9:=Tryz.underlying9
 a9:=Tryz.isAgg9
 z9:=Tryz.sizeOf9
 v9:=Tryz.zeroValue9
 t24:=Tryz.underlying63
 a24:=Tryz.isAgg63
 z24:=Tryz.sizeOf63
 v24:=Tryz.zeroValue63
 i9:=by kernel_rfl }
open Go.RowKit Go.Lib in
theorem Tryz.slices_Clone_string (b off n c:Nat) (zs:List ByteArray) (w:World) (hz:n <= zs.length) (hbig:n * 16 <= 140737488355328) (hc:∀ j,j < zs.length -> w.cell? ⟨b,off + j,none⟩=some (.string (zs.getD j ByteArray.empty))) :
 Calls Tryz.prog 215 #[.slice (some ⟨b,off,none⟩) n c] w fun e w'=>∃ v',e=.returned v' /\ w'.ownsRow w.heap.size 9 1 v' n ((zs.take n).map (Value.string)) /\ v' ≠ .slice none 0 0 /\ Below w.heap.size w w':=Any.slices_Clone_string Tryz.laysNm216 b off n c zs w hz hbig hc
def Tryz.laysNm223_ren:Go.Shelf.Ren:=⟨fun | 23=>218 | n=>n,fun | 22=>191 | 3=>3 | 4=>4 | 0=>0 | n=>n,fun | n=>n⟩
theorem Tryz.laysNm223:Go.Proofs.Lays2.n23 Tryz.prog Tryz.laysNm223_ren:={
 mixed:=by kernel_rfl
 f23:=Tryz.func218.trans (congrArg some (by kernel_rfl))
 t0:=Tryz.underlying0
 a0:=Tryz.isAgg0
 z0:=Tryz.sizeOf0
 v0:=Tryz.zeroValue0
 t3:=Tryz.underlying3
 a3:=Tryz.isAgg3
 z3:=Tryz.sizeOf3
 v3:=Tryz.zeroValue3
 t4:=Tryz.underlying4
 a4:=Tryz.isAgg4
 z4:=Tryz.sizeOf4
 v4:=Tryz.zeroValue4
 t22:=Tryz.underlying191
 a22:=Tryz.isAgg191
 z22:=Tryz.sizeOf191
 v22:=Tryz.zeroValue191
 i3:=by kernel_rfl }
def Tryz.laysNm224_ren:Go.Shelf.Ren:=⟨fun | 24=>217 | n=>n,fun | 24=>63 | 9=>9 | 3=>3 | 4=>4 | 0=>0 | n=>n,fun | n=>n⟩
theorem Tryz.laysNm224:Go.Proofs.Lays2.n24 Tryz.prog Tryz.laysNm224_ren:={
 mixed:=by kernel_rfl
 f24:=Tryz.func217.trans (congrArg some (by kernel_rfl))
 t0:=Tryz.underlying0
 a0:=Tryz.isAgg0
 z0:=Tryz.sizeOf0
 v0:=Tryz.zeroValue0
 t3:=Tryz.underlying3
 a3:=Tryz.isAgg3
 z3:=Tryz.sizeOf3
 v3:=Tryz.zeroValue3
 t4:=Tryz.underlying4
 a4:=Tryz.isAgg4
 z4:=Tryz.sizeOf4
 v4:=Tryz.zeroValue4
 t9:=Tryz.underlying9
 a9:=Tryz.isAgg9
 z9:=Tryz.sizeOf9
 v9:=Tryz.zeroValue9
 t24:=Tryz.underlying63
 a24:=Tryz.isAgg63
 z24:=Tryz.sizeOf63
 v24:=Tryz.zeroValue63
 i9:=by kernel_rfl }
end Go.Proofs
namespace Go.Proofs.YtdcjhpafipbpkaaGreatDoor
set_option maxRecDepth 100000
open Go.RowKit
theorem awL:(∀ (α:Type) (l:List α) (i:Nat) (a:α),l.toArray.setIfInBounds i a=(l.set i a).toArray) /\ (∀ (α:Type) (x:α) (xs:List α) (a:α),(x :: xs).set 0 a=a :: xs) /\ (∀ (α:Type) (x:α) (xs:List α) (i:Nat) (a:α),(x :: xs).set (i + 1) a=x :: xs.set i a) /\ (∀ (α:Type) (xs:List α) (i:Nat) (h:i < xs.toArray.size),xs.toArray[i]=xs[i]'(by simpa using h)) /\ (∀ (α:Type) (x:α) (xs:List α) (i:Nat) (h:i + 1 < (x :: xs).length),(x :: xs)[i + 1]=xs[i]'(by simpa using h)) /\ (∀ (α:Type) (x:α) (xs:List α) (h:0 < (x :: xs).length),(x :: xs)[0]=x) :=
 ⟨fun _ _ _ _=>by simp,fun _ _ _ _=>rfl,fun _ _ _ _ _=>rfl,fun _ _ _ _=>rfl,fun _ _ _ _ _=>rfl,fun _ _ _ _=>rfl⟩
theorem tkH {P:Program} {md:Region.Mode} {ops:Array Oper} {Q:Exit -> Act -> World -> Prop} {S:World -> Prop} (i:Nat) {oi:Oper} {v:Value} {fuel:Nat} {listed:Array Bool} {a:Act} {w:World} (hi:ops[i]?=some oi)
 (h:wpAnyH P md ops Q S fuel (listed.setIfInBounds i true) (a.put oi.dst v) w) (hy:YieldsIf P ops S oi v a:=by exact Or.inl ⟨by rfl,by (intro w hSw; (try dsimp only at hSw); go_simp; try with_reducible rfl)⟩)
 (hs:Region.noSelect ops=true:=by kernel_rfl) (hf:Region.free md ops listed i=true:=by kernel_rfl) (hr:(Region.ready md ops listed).contains i=true:=by kernel_rfl)
 (hQ:∀ c a w,Q (.panic c) (a.put oi.dst v) w -> Q (.panic c) a w:=by exact fun _ _ _ h=>h) (hS:S w:=by assumption):wpAnyH P md ops Q S (fuel + 1) listed a w:=wpAnyH_take hi hs hf hr hQ hy hS h
def pad (s:ByteArray):ByteArray:=⟨(s.data.toList ++ List.replicate (512 - s.size) 0).toArray⟩
theorem ret_strL {a b:ByteArray} (h:a=b):Ending.returned (.string a)=.returned (.string b):=by rw [h]
theorem repeat_zero (n:Nat):Lib.repeatL [(0:UInt8)] n=List.replicate n 0:=by
 induction n with
 | zero=>rfl
 | succ n ih=>simp [Lib.repeatL,ih,List.replicate_succ]
set_option maxHeartbeats 400000 in
theorem full_any (s:ByteArray) (w:World) (h:s.size <= 512) :
 Calls Tryz.prog 153 #[.string s] w fun e w'=>e=.returned (.string (pad s)) /\ Below w.heap.size w w':=by
 obtain ⟨n,hn⟩:∃ n:Nat,n=512 - s.size:=⟨_,rfl⟩
 have e:(512 - (s.size:Int))=(n:Int):=by omega
 have Hn:=Hd hn
 have He:=Hd e
 clear hn e
 go_enter Tryz.func153,Tryz.ntmps153
 go_wp2_with fail
 rw [He.out]
 have h1:=Hn.out
 refine (Tryz.strings_Repeat _ n w (by omega) (show 1 * n <= _ by omega)).mono ?_
 rintro e w1 ⟨rfl,hb⟩
 generalize hz:ByteArray.mk (Lib.repeatL _ n).toArray=z
 rw [show (({ data:=#[0] }:ByteArray).data.toList)=[0] from rfl,repeat_zero,h1] at hz
 have hs:z.size <= 512:=by rw [<- hz]; show (List.replicate (512 - s.size) (0:UInt8)).toArray.size <= 512; rw [List.size_toArray,List.length_replicate]; omega
 have Hz:=Hd hz
 clear h1 hz
 go_wp2_with fail
 go_ret
 refine ⟨ret_strL ?_,hb⟩
 unfold pad
 rw [<- Hz.out]
 apply ByteArray.ext
 simp
structure Dk where
 size:Int
 firm:List (Int × ByteArray)
 loose:List (Int × ByteArray)
 now:List (Int × ByteArray)
 fuel:Int
 bound:Bool
 down:Bool
def dkCells (D:Dk) (mf mn:Nat) (lv:Value):Array Value :=
 #[.int .i64 D.size,.map (some mf),lv,.map (some mn),.int .i64 D.fuel,.bool D.bound,.bool D.down]
def wrs (l:List (Int × ByteArray)):List Value:=l.flatMap fun p=>[.int .i64 p.1,.string p.2]
structure DkWf (D:Dk):Prop where
 size0:0 <= D.size
 size1:D.size <= 65536
 fuel0:-9223372036854775808 <= D.fuel
 fuel1:D.fuel <= 9223372036854775807
 fuel2:D.bound=true -> 0 <= D.fuel
 nowSub:∀ k s,look D.now k=some s -> s.size=512
 firmSub:∀ k s,look D.firm k=some s -> s.size=512
structure IsDk (w:World) (F:Nat -> Prop) (b:Nat) (D:Dk) (mf mn:Nat) (lv:Value):Prop where
 cells:w.heap[b]?=some (.cells (dkCells D mf mn lv) 199 (0,0))
 firm:MapIs kInt Value.string w mf D.firm
 now:MapIs kInt Value.string w mn D.now
 loose:w.ownsRow 0 367 2 lv D.loose.length (wrs D.loose)
 ne:mf ≠ mn
 own:∀ k,F k ↔ k=b \/ k=mf \/ k=mn \/ lv.ownBlock=some k
 wf:DkWf D
theorem IsDk.c {w:World} {F:Nat -> Prop} {b:Nat} {D:Dk} {mf mn:Nat} {lv:Value} (h:IsDk w F b D mf mn lv) :
 w.cell? ⟨b,0,none⟩=some (.int .i64 D.size) /\ w.cell? ⟨b,1,none⟩=some (.map (some mf)) /\ w.cell? ⟨b,2,none⟩=some lv /\ w.cell? ⟨b,3,none⟩=some (.map (some mn)) /\
  w.cell? ⟨b,4,none⟩=some (.int .i64 D.fuel) /\ w.cell? ⟨b,5,none⟩=some (.bool D.bound) /\ w.cell? ⟨b,6,none⟩=some (.bool D.down) :=
 ⟨cell_lit h.cells rfl,cell_lit h.cells rfl,cell_lit h.cells rfl,cell_lit h.cells rfl,cell_lit h.cells rfl,cell_lit h.cells rfl,cell_lit h.cells rfl⟩
theorem Down_c (b:Nat) (x:Bool) (w:World) (h:w.cell? ⟨b,6,none⟩=some (.bool x)):Calls Tryz.prog 108 #[.pointer (some ⟨b,0,none⟩)] w fun e w'=>e=.returned (.bool x) /\ w=w':=by
 go_enter Tryz.func108,Tryz.ntmps108
 go_wp2
 go_ret
 exact ⟨rfl,rfl⟩
theorem MapIs.ne_cells {κ α:Type} [DecidableEq κ] {K:KEnc κ} {V:α -> Value} {w:World} {r:Nat} {m:List (κ × α)} (h:MapIs K V w r m) {b:Nat} {cs:Array Value} {T:TypeId} {fr:Nat × Nat} (hb:w.heap[b]?=some (.cells cs T fr)):r ≠ b:=by
 obtain ⟨es,clock,m0,h1,_⟩:=h
 intro e; subst e; rw [h1] at hb; cases hb
theorem ownsRow_cells {w:World} {base:Nat} {e:TypeId} {size:Nat} {v:Value} {n:Nat} {xs:List Value} (h:w.ownsRow base e size v n xs) {k:Nat} (hk:v.ownBlock=some k):∃ cur,w.heap[k]?=some (.cells cur e (0,0)):=by
 rcases h.2 with ⟨rfl,_⟩ | ⟨g,cap,cur,rfl,_,hg,_⟩
 ·simp [Value.ownBlock] at hk
 ·simp [Value.ownBlock] at hk; subst hk; exact ⟨cur,hg⟩
theorem ownsRow_upd {w w':World} {S:Nat -> Prop} {base:Nat} {e:TypeId} {size:Nat} {v:Value} {n:Nat} {xs:List Value} (h:w.ownsRow base e size v n xs) (hu:Upd S w w') (hn:∀ k,v.ownBlock=some k -> ¬ S k):w'.ownsRow base e size v n xs:=by
 refine ⟨h.1,?_⟩
 rcases h.2 with h2 | ⟨g,cap,cur,rfl,hg,hh,r⟩
 ·exact Or.inl h2
 ·exact Or.inr ⟨g,cap,cur,rfl,hg,hu.at hh (hn g rfl),r⟩
theorem IsDk.frame {w w':World} {S F:Nat -> Prop} {b:Nat} {D:Dk} {mf mn:Nat} {lv:Value} (h:IsDk w F b D mf mn lv) (hu:Upd S w w') (hn:∀ k,F k -> ¬ S k):IsDk w' F b D mf mn lv :=
 ⟨hu.at h.cells (hn b ((h.own b).2 (.inl rfl))),h.firm.upd hu (hn mf ((h.own mf).2 (.inr (.inl rfl)))),h.now.upd hu (hn mn ((h.own mn).2 (.inr (.inr (.inl rfl))))),
  ownsRow_upd h.loose hu (fun k hk=>hn k ((h.own k).2 (.inr (.inr (.inr hk))))),h.ne,h.own,h.wf⟩
theorem IsDk.lt {w:World} {F:Nat -> Prop} {b:Nat} {D:Dk} {mf mn:Nat} {lv:Value} (h:IsDk w F b D mf mn lv):∀ k,F k -> k < w.heap.size:=by
 intro k hk
 rcases (h.own k).1 hk with rfl | rfl | rfl | hk
 ·exact lt_of_heap h.cells
 ·exact h.firm.lt
 ·exact h.now.lt
 ·exact (h.loose.lt k hk).2
theorem _root_.Go.RowKit.Below.upd' {B:Nat} {w w':World} (h:Below B w w') (hB:w.heap.size <= B):Upd (fun _=>False) w w':=⟨h.os,h.tape,h.output,h.size,fun k hk _=>h.block k (by omega)⟩
theorem Size_c (b:Nat) (n:Int) (w:World) (h:w.cell? ⟨b,0,none⟩=some (.int .i64 n)):Calls Tryz.prog 107 #[.pointer (some ⟨b,0,none⟩)] w fun e w'=>e=.returned (.int .i64 n) /\ w=w':=by
 go_enter Tryz.func107,Tryz.ntmps107
 go_wp2
 go_ret
 exact ⟨rfl,rfl⟩
def dkRead (D:Dk) (i:Int):ByteArray × Int :=
 if D.down=true then (ByteArray.empty,3) else if i < 0 \/ D.size <= i then (ByteArray.empty,2) else
 match look D.now i with
 | some s=>(s,0)
 | none=>match look D.firm i with
   | some s=>(s,0)
   | none=>(pad ByteArray.empty,0)
theorem zeroStr (w:World):(zeroValue 9).run Tryz.prog w=.ok (.string ByteArray.empty) w:=by kernel_rfl
def Two (a:ByteArray) (b:Int):Ending:=.returned (.tuple #[.string a,.int .i64 b])
set_option maxHeartbeats 400000 in
theorem Read_c (b:Nat) (D:Dk) (F:Nat -> Prop) (mf mn:Nat) (lv:Value) (i:Int) (w:World) (h:IsDk w F b D mf mn lv) :
 Calls Tryz.prog 109 #[.pointer (some ⟨b,0,none⟩),.int .i64 i] w fun e w'=>e=Two (dkRead D i).1 (dkRead D i).2 /\ Below w.heap.size w w':=by
 obtain ⟨c0,c1,c2,c3,c4,c5,c6⟩:=h.c
 have l1:=run_lookup_ok h.now Tryz.underlying196 Tryz.underlying3 (zeroStr w) i
 have l2:=run_lookup_ok h.firm Tryz.underlying196 Tryz.underlying3 (zeroStr w) i
 rcases D with ⟨sz,firm,loose,now,fuel,bound,down⟩
 simp only at c0 c1 c2 c3 c4 c5 c6 l1 l2
 clear h c2 c4 c5
 cases down
 ·by_cases hi:i < 0 \/ sz <= i
  ·have e1:dkRead ⟨sz,firm,loose,now,fuel,bound,false⟩ i=(ByteArray.empty,2):=by simp [dkRead,hi]
   rw [e1]
   clear e1 l1 l2 c1 c3
   rcases hi with hi | hi
   ·go_enter Tryz.func109,Tryz.ntmps109
    go_wp2
    go_ret2
    exact ⟨rfl,Below.refl _ _⟩
   ·by_cases h0:i < 0
    ·go_enter Tryz.func109,Tryz.ntmps109
     go_wp2
     go_ret2
     exact ⟨rfl,Below.refl _ _⟩
    ·go_enter Tryz.func109,Tryz.ntmps109
     go_wp2
     go_ret2
     exact ⟨rfl,Below.refl _ _⟩
  ·have i0:0 <= i:=by omega
   have i1:i < sz:=by omega
   have e1:dkRead ⟨sz,firm,loose,now,fuel,bound,false⟩ i=(match look now i with | some s=>(s,0) | none=>match look firm i with | some s=>(s,0) | none=>(pad ByteArray.empty,0)):=by simp [dkRead,hi]
   rw [e1]
   clear e1 hi
   cases hn:look now i with
   | some s =>
     rw [hn] at l1
     simp only [Option.map_some,Option.getD_some,Option.isSome_some,kInt] at l1
     clear hn l2 c1
     go_enter Tryz.func109,Tryz.ntmps109
     go_wp2
     go_ret2
     exact ⟨rfl,Below.refl _ _⟩
   | none =>
     rw [hn] at l1
     simp only [Option.map_none,Option.getD_none,Option.isSome_none,kInt] at l1
     cases hf:look firm i with
     | some s =>
       rw [hf] at l2
       simp only [Option.map_some,Option.getD_some,Option.isSome_some,kInt] at l2
       clear hn hf
       go_enter Tryz.func109,Tryz.ntmps109
       go_wp2
       go_ret2
       exact ⟨rfl,Below.refl _ _⟩
     | none =>
       rw [hf] at l2
       simp only [Option.map_none,Option.getD_none,Option.isSome_none,kInt] at l2
       clear hn hf
       go_enter Tryz.func109,Tryz.ntmps109
       go_wp2_with (first | (go_at_call 108; refine (Down_c _ _ _ c6).mono ?_; rintro e w' ⟨rfl,rfl⟩) | (go_at_call 153; refine (full_any _ _ ?_).mono ?_; (decide); rintro e w1 ⟨rfl,hb⟩))
       go_ret2
       exact ⟨rfl,hb⟩
 ·have e1:dkRead ⟨sz,firm,loose,now,fuel,bound,true⟩ i=(ByteArray.empty,3):=by simp [dkRead]
  rw [e1]
  clear e1 l1 l2 c1 c3
  go_enter Tryz.func109,Tryz.ntmps109
  go_wp2
  go_ret2
  exact ⟨rfl,Below.refl _ _⟩
def dkNew (n:Int):Dk:=⟨n,[],[],[],0,false,false⟩
set_option maxHeartbeats 1000000
theorem Calls.at_args {P:Program} {F:FuncId} {args args':Array Value} {w:World} {post Q:Ending -> World -> Prop} (h:Calls P F args w post) (ha:args'=args) (hm:∀ e w',post e w' -> Q e w'):Calls P F args' w Q:=by
 subst ha; exact h.mono hm
def zeros (z:ByteArray):Prop:=∀ k,k < z.size -> z[k]?=some 0
def pad0:ByteArray:=pad ByteArray.empty
theorem pad0_size:pad0.size=512:=by rw [Lib.size_eq]; simp [pad0,pad]
theorem pad0_data:pad0.data.toList=List.replicate 512 0:=by simp [pad0,pad]
theorem zeros_of {z:ByteArray} {n:Nat} (h:z.data.toList=List.replicate n 0):zeros z:=by
 intro k hk
 have hs:=Lib.size_eq z
 rw [h,List.length_replicate] at hs
 rw [getElem?_pos _ k hk]
 have:z[k]=z.data.toList[k]'(by rw [h,List.length_replicate]; omega):=rfl
 rw [this]
 simp [h]
theorem pad0_zeros:zeros pad0:=zeros_of pad0_data
theorem pad0_trim:(⟨(Lib.trimB pad0.data.toList 0).toArray⟩:ByteArray)=⟨#[]⟩:=by
 rw [pad0_data]; decide +kernel
theorem run_idx_str {P:Program} (t:TypeId) (s:ByteArray) (k:Nat) (d:UInt8) (ht:P.underlying t=some .string) (h:s[k]?=some d) (w:World) :
 (Instr.index t (.string s) (.int .i64 (k:Int))).run P w=.ok (.int .u8 (d.toNat:Int)) w:=by
 simp [Instr.index,asIntOf,run_underlying ht,h]
theorem told0_c (s:ByteArray) (w:World) (hz:zeros s) (hs:s.size <= 1000) :
 Calls Tryz.prog 111 #[.string s] w fun e w'=>e=.returned (.int .u64 0) /\ w=w':=by
 have HZ:=Hd hz
 clear hz
 go_enter Tryz.func111,Tryz.ntmps111
 go_wp2_with fail
 go_loopg [3,7] s.size (fun g s3 s7 wr=>∃ k:Nat,g=s.size - k /\ k <= s.size /\ s7=.int .i64 k /\ s3=.int .u64 0 /\ w=wr)
 case atStart=>exact ⟨0,rfl,Nat.zero_le _,rfl,rfl,rfl⟩
 case round =>
  obtain ⟨k,rfl,hk,rfl,rfl,rfl⟩:=hrel
  by_cases hlt:k < s.size
  ·have hidx:=fun w=>run_idx_str (P:=Tryz.prog) 9 s k 0 Tryz.underlying9 (HZ.out k hlt) w
   have hor:bits .or .u64 0 0=0:=by decide +kernel
   go_wp2_with fail
   go_roundg (s.size - (k + 1))
   case measure=>omega
   case rel=>exact ⟨k + 1,rfl,by omega,by simp,rfl,rfl⟩
  ·obtain rfl:k=s.size:=by omega
   clear hlt hk
   go_wp2_with fail
   go_ret
   exact ⟨rfl,rfl⟩
structure IsLg (w:World) (FL:Nat -> Prop) (lb n db mo mf mn:Nat):Prop where
 cells:w.heap[lb]?=some (.cells #[.pointer (some ⟨db,0,none⟩),.int .i64 200,.int .i64 0,.int .i64 0,.int .i64 0,.int .u64 0,.map (some mo),.bool false] 201 (0,0))
 over:MapIs kInt Value.string w mo []
 disk:IsDk w (fun k=>k=db \/ k=mf \/ k=mn) db (dkNew (201 + n)) mf mn (.slice none 0 0)
 own:∀ k,FL k ↔ k=lb \/ k=mo \/ k=db \/ k=mf \/ k=mn
 n0:1 <= n
 n1:n <= 65335
def IsLog (w:World) (FL:Nat -> Prop) (lb n:Nat):Prop:=∃ db mo mf mn,IsLg w FL lb n db mo mf mn
theorem IsLg.frame {w w':World} {S FL:Nat -> Prop} {lb n db mo mf mn:Nat} (h:IsLg w FL lb n db mo mf mn) (hu:Upd S w w') (hn:∀ k,FL k -> ¬ S k):IsLg w' FL lb n db mo mf mn :=
 ⟨hu.at h.cells (hn _ ((h.own _).2 (.inl rfl))),h.over.upd hu (hn _ ((h.own _).2 (.inr (.inl rfl)))),h.disk.frame hu (fun k hk=>hn k ((h.own k).2 (.inr (.inr hk)))),h.own,h.n0,h.n1⟩
theorem IsLog.frame {w w':World} {S FL:Nat -> Prop} {lb n:Nat} (h:IsLog w FL lb n) (hu:Upd S w w') (hn:∀ k,FL k -> ¬ S k):IsLog w' FL lb n:=by
 obtain ⟨db,mo,mf,mn,h⟩:=h; exact ⟨db,mo,mf,mn,h.frame hu hn⟩
theorem IsLog.below {w w':World} {FL:Nat -> Prop} {lb n:Nat} (h:IsLog w FL lb n) (hb:Below w.heap.size w w'):IsLog w' FL lb n:=h.frame (hb.upd' (Nat.le_refl _)) (fun _ _ e=>e)
theorem IsLg.lt {w:World} {FL:Nat -> Prop} {lb n db mo mf mn:Nat} (h:IsLg w FL lb n db mo mf mn):∀ k,FL k -> k < w.heap.size:=by
 intro k hk
 rcases (h.own k).1 hk with rfl | rfl | hk
 ·exact lt_of_heap h.cells
 ·exact h.over.lt
 ·exact h.disk.lt k hk
theorem IsLog.lt {w:World} {FL:Nat -> Prop} {lb n:Nat} (h:IsLog w FL lb n):∀ k,FL k -> k < w.heap.size:=by
 obtain ⟨db,mo,mf,mn,h⟩:=h; exact h.lt
theorem IsLg.c {w:World} {FL:Nat -> Prop} {lb n db mo mf mn:Nat} (h:IsLg w FL lb n db mo mf mn) :
 w.cell? ⟨lb,0,none⟩=some (.pointer (some ⟨db,0,none⟩)) /\ w.cell? ⟨lb,1,none⟩=some (.int .i64 200) /\ w.cell? ⟨lb,3,none⟩=some (.int .i64 0) /\ w.cell? ⟨lb,6,none⟩=some (.map (some mo)) /\ w.cell? ⟨lb,7,none⟩=some (.bool false) :=
 ⟨cell_lit h.cells rfl,cell_lit h.cells rfl,cell_lit h.cells rfl,cell_lit h.cells rfl,cell_lit h.cells rfl⟩
theorem wr64 {a:Int} (h0:-9223372036854775808 <= a) (h1:a <= 9223372036854775807):IntKind.i64.wrap a=a:=by
 simp only [IntKind.wrap,IntKind.bits,IntKind.signed]; simp; omega
theorem LDown_c (lb:Nat) (w:World) (h:w.cell? ⟨lb,7,none⟩=some (.bool false)) :
 Calls Tryz.prog 189 #[.pointer (some ⟨lb,0,none⟩)] w fun e w'=>e=.returned (.bool false) /\ w=w':=by
 go_enter Tryz.func189,Tryz.ntmps189
 go_wp2_with fail
 go_ret
 exact ⟨rfl,rfl⟩
theorem say_c (lb:Nat) (e:Int) (w:World) (h:¬ e=3) :
 Calls Tryz.prog 203 #[.pointer (some ⟨lb,0,none⟩),.int .i64 e] w fun e' w'=>e'=.returned (.int .i64 e) /\ w=w':=by
 have h3:(e == 3)=false:=by simpa using h
 clear h
 go_enter Tryz.func203,Tryz.ntmps203
 go_wp2_with fail
 go_ret
 exact ⟨rfl,rfl⟩
theorem LHomes_c (lb n:Nat) (FL:Nat -> Prop) (w:World) (h:IsLog w FL lb n) :
 Calls Tryz.prog 113 #[.pointer (some ⟨lb,0,none⟩)] w fun e w'=>e=.returned (.int .i64 n) /\ Below w.heap.size w w':=by
 obtain ⟨db,mo,mf,mn,h⟩:=h
 obtain ⟨c0,c1,-,-,-⟩:=h.c
 have hn:=h.n1
 have SZ:=Hd (Size_c db (201 + n) w.drew (by have:=h.disk.c.1; exact this))
 clear h
 go_enter Tryz.func113,Tryz.ntmps113
 go_wp2_with fail
 go_region_held3 (fun w'=>w'.cell? ⟨lb,0,none⟩=some (.pointer (some ⟨db,0,none⟩)) /\ w'.cell? ⟨lb,1,none⟩=some (.int .i64 200)) (go_keep) ((go_at_call 107; refine (SZ.out).mono ?_; rintro e w2 ⟨rfl,rfl⟩))
 go_wp2_with fail
 go_ret
 refine ⟨?_,(Below.refl _ _).drew⟩
 show Ending.returned (Value.int .i64 (IntKind.i64.wrap (IntKind.i64.wrap (201 + (n:Int) - 1) - 200)))=_
 rw [wr64 (a:=201 + (n:Int) - 1) (by omega) (by omega),wr64 (by omega) (by omega)]
 congr 2; omega
def lgRead (n:Nat) (i:Int):ByteArray × Int:=if i < 0 \/ (n:Int) <= i then (⟨#[]⟩,2) else (pad0,0)
theorem dkRead_new {n:Nat} {i:Int} (h0:0 <= i) (h1:i < 201 + n):dkRead (dkNew (201 + n)) i=(pad0,0):=by
 unfold dkRead dkNew
 rw [if_neg (by simp),if_neg (by simp; omega)]
 rfl
theorem LRead_c (lb n:Nat) (FL:Nat -> Prop) (i:Int) (w:World) (h:IsLog w FL lb n) :
 Calls Tryz.prog 198 #[.pointer (some ⟨lb,0,none⟩),.int .i64 i] w fun e w'=>e=.returned (.tuple #[.string (lgRead n i).1,.int .i64 (lgRead n i).2]) /\ Below w.heap.size w w':=by
 have DN:=LDown_c lb w (by obtain ⟨db,mo,mf,mn,h⟩:=h; exact h.c.2.2.2.2)
 have HM:=LHomes_c lb n FL w h
 by_cases h0:i < 0
 ·have HE:=Hd (show lgRead n i=(⟨#[]⟩,2) by unfold lgRead; rw [if_pos (.inl h0)])
  clear h HM
  go_enter Tryz.func198,Tryz.ntmps198
  go_wp2_with (go_at_call 189; refine DN.mono ?_; rintro e w1 ⟨rfl,rfl⟩)
  go_ret2
  exact ⟨by rw [HE.out]; rfl,Below.refl _ _⟩
 by_cases h1:(n:Int) <= i
 ·have HE:=Hd (show lgRead n i=(⟨#[]⟩,2) by unfold lgRead; rw [if_pos (.inr h1)])
  clear h
  go_enter Tryz.func198,Tryz.ntmps198
  go_wp2_with (first | (go_at_call 189; refine DN.mono ?_; rintro e w1 ⟨rfl,rfl⟩) | (go_at_call 113; refine HM.mono ?_; rintro e w2 ⟨rfl,hb⟩))
  go_ret2
  exact ⟨by rw [HE.out]; rfl,hb⟩
 ·have HE:=Hd (show lgRead n i=(pad0,0) by unfold lgRead; rw [if_neg (by omega)])
  have HL:=Hd h
  have hn1:n <= 65335:=by obtain ⟨db,mo,mf,mn,h⟩:=h; exact h.n1
  clear h
  go_enter Tryz.func198,Tryz.ntmps198
  go_wp2_with (go_at_call 189; refine DN.mono ?_; rintro e w1 ⟨rfl,rfl⟩)
  refine HM.mono ?_
  rintro e w2 ⟨rfl,hb⟩
  have HB:=Hd hb
  obtain ⟨db,mo,mf,mn,h2⟩:=HL.out.below hb
  clear hb HM DN
  have HL2:=Hd h2
  obtain ⟨c0,c1,-,c6,-⟩:=h2.c
  have lk:=run_lookup_ok h2.over Tryz.underlying196 Tryz.underlying3 (zeroStr w2) i
  rw [show look ([]:List (Int × ByteArray)) i=none from rfl] at lk
  simp only [Option.map_none,Option.getD_none,Option.isSome_none,kInt] at lk
  have RD:Hid (∀ W,Below w2.heap.size w2 W -> Calls Tryz.prog 109 #[.pointer (some ⟨db,0,none⟩),.int .i64 (201 + i)] W fun e w'=>e=.returned (.tuple #[.string pad0,.int .i64 0]) /\ Below W.heap.size W w'):=Hd fun W hW=>by
   have:=Read_c db _ _ _ _ _ (201 + i) W (h2.frame (hW.upd' (Nat.le_refl _)) (fun _ _ e=>e)).disk
   rwa [dkRead_new (by omega) (by omega)] at this
  have hw:IntKind.i64.wrap (201 + i)=201 + i:=wr64 (by omega) (by omega)
  have hw0:IntKind.i64.wrap 201=201:=rfl
  have RD2:=Hd (RD.out w2.drew ((Below.refl _ _).drew))
  clear RD
  have SY:=Hd (fun w=>say_c lb 0 w (by decide))
  clear h2
  go_wp2_with fail
  go_region_held3 (fun w'=>w'.cell? ⟨lb,0,none⟩=some (.pointer (some ⟨db,0,none⟩)) /\ w'.cell? ⟨lb,1,none⟩=some (.int .i64 200)) (go_keep) ((go_at_call 109; refine Calls.at_args (RD2.out) (by with_reducible rfl) ?_; rintro e w3 ⟨rfl,hb⟩; have HB3:=Hd ((HB.out).trans ((((Below.refl w2.heap.size w2).drew).trans hb).mono (HB.out).size)); obtain ⟨e0,e1,-,-,-⟩:=((HL2.out.frame (((Below.refl w2.heap.size w2).drew.trans hb).upd' (Nat.le_refl _)) (fun _ _ e=>e))).c; clear hb))
  go_wp2_with (go_at_call 203; refine (SY.out _).mono ?_; rintro e w4 ⟨rfl,rfl⟩)
  go_ret2
  exact ⟨by rw [HE.out]; rfl,HB3.out⟩
theorem lread0_c (lb n db mo mf mn:Nat) (FL:Nat -> Prop) (w:World) (h:IsLg w FL lb n db mo mf mn) :
 Calls Tryz.prog 161 #[.pointer (some ⟨lb,0,none⟩),.int .i64 0] w fun e w'=>e=.returned (.tuple #[.string pad0,.int .i64 0]) /\ Below w.heap.size w w':=by
 have HL:=Hd h
 obtain ⟨c0,c1,-,-,-⟩:=h.c
 have h0:=h.n0
 have RD:Hid (Calls Tryz.prog 109 #[.pointer (some ⟨db,0,none⟩),.int .i64 1] w.drew fun e w'=>e=.returned (.tuple #[.string pad0,.int .i64 0]) /\ Below w.heap.size w w'):=Hd (by
  have:=Read_c db _ _ _ _ _ 1 w.drew (h.frame (((Below.refl w.heap.size w).drew).upd' (Nat.le_refl _)) (fun _ _ e=>e)).disk
  rw [dkRead_new (by omega) (by omega)] at this
  exact this.mono fun e w' ⟨a,b⟩=>⟨a,((Below.refl w.heap.size w).drew).trans b⟩)
 have SY:=Hd (fun w=>say_c lb 0 w (by decide))
 have hw0:IntKind.i64.wrap 1=1:=rfl
 have ht:Int.tmod 0 200=0:=rfl
 clear h
 go_enter Tryz.func161,Tryz.ntmps161
 go_wp2_with fail
 go_region_held3 (fun w'=>w'.cell? ⟨lb,0,none⟩=some (.pointer (some ⟨db,0,none⟩)) /\ w'.cell? ⟨lb,1,none⟩=some (.int .i64 200)) (go_keep) ((go_at_call 109; refine Calls.at_args (RD.out) (by with_reducible rfl) ?_; rintro e w3 ⟨rfl,hb⟩; have HB3:=Hd hb; obtain ⟨e0,e1,-,-,-⟩:=(HL.out.frame (hb.upd' (Nat.le_refl _)) (fun _ _ e=>e)).c; clear hb))
 go_wp2_with (go_at_call 203; refine (SY.out _).mono ?_; rintro e w4 ⟨rfl,rfl⟩)
 go_ret2
 exact ⟨rfl,HB3.out⟩
theorem pad0_get {k:Nat} (hk:k < 512):pad0[k]?=some 0:=pad0_zeros k (by rw [pad0_size]; exact hk)
theorem pad0_sub (a b:Nat) (hab:a <= b) (hb:b <= 512):(pad0.extract a b).size=b - a /\ zeros (pad0.extract a b):=by
 have hd:(pad0.extract a b).data.toList=List.replicate (b - a) 0:=by
  have:(pad0.extract a b).data.toList=(pad0.data.toList.take b).drop a:=by
   generalize pad0=z
   simp only [ByteArray.data_extract,Array.toList_extract,List.extract,List.take_drop]
   rw [show a + (b - a)=b by omega]
  rw [this,pad0_data,List.take_replicate,List.drop_replicate]; congr 1; omega
 exact ⟨by rw [Lib.size_eq,hd,List.length_replicate],zeros_of hd⟩
theorem recover_c (lb n db mo mf mn:Nat) (FL:Nat -> Prop) (w:World) (h:IsLg w FL lb n db mo mf mn) :
 Calls Tryz.prog 112 #[.pointer (some ⟨lb,0,none⟩)] w fun e w'=>e=.returned (.tuple #[.bool false,.int .i64 0]) /\ Below w.heap.size w w':=by
 have LR:=lread0_c lb n db mo mf mn FL w h
 obtain ⟨-,-,c3,-,-⟩:=h.c
 obtain ⟨y,hy⟩:=exE (pad0.extract 9 13)
 obtain ⟨q1,q2⟩:=pad0_sub 9 13 (by decide) (by decide)
 rw [hy] at q1 q2
 have TL:=Hd (fun w=>told0_c y w q2 (by omega))
 have hsz:=pad0_size
 have hi:∀ w,(Instr.index 9 (.string pad0) (.int .i64 0)).run Tryz.prog w=.ok (.int .u8 0) w:=fun w=>run_idx_str (P:=Tryz.prog) 9 pad0 0 0 Tryz.underlying9 (pad0_get (by decide)) w
 clear h q2
 generalize pad0=z at *
 go_enter Tryz.func112,Tryz.ntmps112
 go_wp2_with fail
 refine LR.mono ?_
 rintro e w2 ⟨rfl,hb⟩
 have HB:=Hd hb
 clear hb LR
 go_wp2_with fail
 refine (TL.out _).mono ?_
 rintro e w3 ⟨rfl,rfl⟩
 go_wp2_with fail
 refine wp_region_noPanic ?_
 refine wp_region_held_drew (S:=(fun _=>True)) (by kernel_rfl) ?_ (fun hHeld=>?_)
 ·exact trivial
 refine' tkH 0 rfl ?_
 try simp only [Act.put,List.setIfInBounds_toArray,List.set_cons_zero,List.set_cons_succ,List.getElem_toArray,List.getElem_cons_zero]
 refine' tkH 1 rfl ?_; try simp only [Act.put,awL]
 refine' tkH 2 rfl ?_; try simp only [Act.put,awL]
 refine' tkH 3 rfl ?_; try simp only [Act.put,awL]
 refine' tkH 4 rfl ?_ (Or.inr ⟨by rfl,rfl⟩)
 try simp only [Act.put,awL]
 refine' tkH 5 rfl ?_ (Or.inr ⟨by rfl,rfl⟩)
 try simp only [Act.put,awL]
 refine' tkH 6 rfl ?_ (Or.inr ⟨by rfl,rfl⟩)
 try simp only [Act.put,awL]
 refine' tkH 7 rfl ?_ (Or.inr ⟨by rfl,rfl⟩)
 try simp only [Act.put,awL]
 refine' tkH 8 rfl ?_ (Or.inr ⟨by rfl,rfl⟩)
 try simp only [Act.put,awL]
 refine' tkH 9 rfl ?_ (Or.inr ⟨by rfl,rfl⟩)
 try simp only [Act.put,awL]
 refine' tkH 10 rfl ?_ (Or.inr ⟨by rfl,rfl⟩)
 try simp only [Act.put,awL]
 refine' tkH 11 rfl ?_ (Or.inr ⟨by rfl,rfl⟩)
 try simp only [Act.put,awL]
 refine' tkH 12 rfl ?_ (Or.inr ⟨by rfl,rfl⟩)
 try simp only [Act.put,awL]
 refine' tkH 13 rfl ?_; try simp only [Act.put,awL]
 refine' tkH 14 rfl ?_; try simp only [Act.put,awL]
 refine' tkH 15 rfl ?_ (Or.inr ⟨by rfl,rfl⟩)
 try simp only [Act.put,awL]
 refine' tkH 16 rfl ?_ (Or.inr ⟨by rfl,rfl⟩)
 try simp only [Act.put,awL]
 refine' tkH 17 rfl ?_; try simp only [Act.put,awL]
 refine' tkH 18 rfl ?_; try simp only [Act.put,awL]
 refine' tkH 19 rfl ?_ (Or.inr ⟨by rfl,rfl⟩)
 try simp only [Act.put,awL]
 refine' tkH 20 rfl ?_ (Or.inr ⟨by rfl,rfl⟩)
 try simp only [Act.put,awL]
 refine' tkH 21 rfl ?_; try simp only [Act.put,awL]
 refine wpAnyH_done (by kernel_rfl) ?_ _
 refine NoPanic.normal ?_
 go_wp2_with fail
 go_ret2
 exact ⟨rfl,(HB.out).drew⟩
theorem Open_c (db n mf mn:Nat) (w:World) (h:IsDk w (fun k=>k=db \/ k=mf \/ k=mn) db (dkNew (201 + n)) mf mn (.slice none 0 0)) (n0:1 <= n) (n1:n <= 65335) :
 Calls Tryz.prog 56 #[.pointer (some ⟨db,0,none⟩),.int .i64 200] w fun e w'=>e=.returned (.tuple #[.pointer (some ⟨w.heap.size + 1,0,none⟩),.int .i64 0]) /\
  Hid (IsLg w' (fun k=>k=w.heap.size + 1 \/ k=w.heap.size \/ k=db \/ k=mf \/ k=mn) (w.heap.size + 1) n db w.heap.size mf mn /\ Below w.heap.size w w'):=by
 have hmm:=@run_makeMap Tryz.prog
 have SZ:=Hd (Size_c db (201 + n) w h.c.1)
 have DN:=Hd (Down_c db false w (by have:=h.c; exact this.2.2.2.2.2.2))
 have RD:Hid (∀ W,Below w.heap.size w W -> Calls Tryz.prog 109 #[.pointer (some ⟨db,0,none⟩),.int .i64 0] W fun e w'=>e=.returned (.tuple #[.string pad0,.int .i64 0]) /\ Below W.heap.size W w'):=Hd fun W hW=>by
  have:=Read_c db _ _ _ _ _ 0 W (h.frame (hW.upd' (Nat.le_refl _)) (fun _ _ e=>e))
  rwa [dkRead_new (by omega) (by omega)] at this
 have TR:=Hd (fun w=>Tryz.strings_Trim_one pad0 0 (by decide) w (by rw [pad0_size]; omega))
 rw [pad0_trim] at TR
 have H:=Hd h
 have lt:=h.lt
 have hsz:=pad0_size
 have LG:Hid (∀ W,W.heap[w.heap.size + 1]?=some (.cells #[.pointer (some ⟨db,0,none⟩),.int .i64 200,.int .i64 0,.int .i64 0,.int .i64 0,.int .u64 0,.map (some w.heap.size),.bool false] 201 (0,0)) -> MapIs kInt Value.string W w.heap.size [] -> Below w.heap.size w W ->
  IsLg W (fun k=>k=w.heap.size + 1 \/ k=w.heap.size \/ k=db \/ k=mf \/ k=mn) (w.heap.size + 1) n db w.heap.size mf mn) :=
  Hd fun W h1 h2 hb=>⟨h1,h2,h.frame (hb.upd' (Nat.le_refl _)) (fun _ _ e=>e),fun _=>Iff.rfl,n0,n1⟩
 clear h
 generalize pad0=z at *
 go_enter Tryz.func56,Tryz.ntmps56
 go_wp2_with (first | (go_at_call 107; refine (SZ.out).mono ?_; rintro e w1 ⟨rfl,rfl⟩) | (go_at_call 108; refine (DN.out).mono ?_; rintro e w1 ⟨rfl,rfl⟩))
 have hb0:=((Below.refl w.heap.size w).alloc (Nat.le_refl _) (.map #[] 0)).alloc (by simp) (.cells #[.pointer (some ⟨db,0,none⟩),.int .i64 200,.int .i64 0,.int .i64 0,.int .i64 0,.int .u64 0,.map (some w.heap.size),.bool false] 201)
 have hc0:((w.alloc (.map #[] 0)).alloc (.cells #[.pointer (some ⟨db,0,none⟩),.int .i64 200,.int .i64 0,.int .i64 0,.int .i64 0,.int .u64 0,.map (some w.heap.size),.bool false] 201)).heap[w.heap.size + 1]?=some (.cells #[.pointer (some ⟨db,0,none⟩),.int .i64 200,.int .i64 0,.int .i64 0,.int .i64 0,.int .u64 0,.map (some w.heap.size),.bool false] 201 (0,0)):=by
  have:=heap_alloc_new (w.alloc (.map #[] 0)) (.cells #[.pointer (some ⟨db,0,none⟩),.int .i64 200,.int .i64 0,.int .i64 0,.int .i64 0,.int .u64 0,.map (some w.heap.size),.bool false] 201); simpa using this
 have hm0:MapIs kInt Value.string ((w.alloc (.map #[] 0)).alloc (.cells #[.pointer (some ⟨db,0,none⟩),.int .i64 200,.int .i64 0,.int .i64 0,.int .i64 0,.int .u64 0,.map (some w.heap.size),.bool false] 201)) w.heap.size []:=(MapIs.made w).alloc _
 refine (RD.out _ hb0).mono ?_
 rintro e w1 ⟨rfl,hb⟩
 have HC1:=Hd ((hb.block (w.heap.size + 1) (by simp)).trans hc0)
 have HM1:=Hd (hm0.upd (hb.upd' (Nat.le_refl _)) (fun e=>e))
 have HB1:=Hd (hb0.trans (hb.mono hb0.size))
 clear hb hb0 hc0 hm0 RD SZ DN
 go_wp2_with fail
 refine (TR.out _).mono ?_
 rintro e w2 ⟨rfl,hw2⟩
 have hb2:Below w1.heap.size w1 w2:=by
  rcases hw2 with rfl | rfl
  ·exact Below.refl _ _
  ·exact (Below.refl _ _).drew
 have HC2:=Hd ((hb2.block (w.heap.size + 1) (lt_of_heap HC1.out)).trans HC1.out)
 have HM2:=Hd (HM1.out.upd (hb2.upd' (Nat.le_refl _)) (fun e=>e))
 have HB2:=Hd ((HB1.out).trans (hb2.mono (HB1.out).size))
 have c2:=cell_lit HC2.out (i:=2) rfl
 have c3:=cell_lit HC2.out (i:=3) rfl
 have f3:=frozen_lit HC2.out 3
 have hlg:IsLg (w2.setCell ⟨w.heap.size + 1,3,none⟩ (.int .i64 0)) (fun k=>k=w.heap.size + 1 \/ k=w.heap.size \/ k=db \/ k=mf \/ k=mn) (w.heap.size + 1) n db w.heap.size mf mn :=
  LG.out _ (heap_set_lit HC2.out _) (HM2.out.upd (upd_setCell w2 (w.heap.size + 1) 3 (.int .i64 0)) (by omega)) ((HB2.out).setCell (by simp) _)
 have RC:=Hd (recover_c _ _ _ _ _ _ _ _ hlg)
 have HLG:=Hd hlg
 clear hw2 hb2 hlg TR
 go_wp2_with fail
 go_loopg [9] 1 (fun g s9 wr=>wr=w2.setCell ⟨w.heap.size + 1,3,none⟩ (.int .i64 0))
 case atStart=>rfl
 case round =>
 subst hrel
 go_wp2_with fail
 refine (RC.out).mono ?_
 rintro e w3 ⟨rfl,hb3⟩
 have HF:=Hd (HLG.out.frame (hb3.upd' (Nat.le_refl _)) (fun _ _ e=>e))
 have HB3:=Hd (((HB2.out).setCell (p:=⟨w.heap.size + 1,3,none⟩) (by simp) (.int .i64 0)).trans (hb3.mono ((HB2.out).setCell (p:=⟨w.heap.size + 1,3,none⟩) (by simp) (.int .i64 0)).size))
 clear hb3
 go_wp2_with fail
 go_ret2
 exact ⟨rfl,HF.out,HB3.out⟩
end Go.Proofs.YtdcjhpafipbpkaaGreatDoor
