/- Part 8 of the proof: the texts H2 Y3 Z3 ZN ZC0 Z4 Z5 Z6 ZC ZO ZD ZE ZP XQ UL UE UF UG UH UI. -/
import Derived.Shelf.Strings.Builder1
import Derived.Shelf.Strings.Builder2
import Derived.Shelf.Strings.OnBuilder
import Derived.Shelf.Strings.Trim
import Derived.Shelf.Small.Utf8
import Derived.Shelf.Small.Bits
import Derived.Shelf.Small.Strs
import Derived.Shelf.Small.Wraps
import Derived.Shelf.Strings.BuilderF
import Derived.Shelf.Strings.BuilderK
import Derived.Shelf.Utf8.RuneCount
import Derived.Shelf.Strings.Builder2Cap
import Derived.Shelf.Strconv.Atoi
import Derived.Shelf.Strconv.Itoa0
import Derived.Shelf.Strconv.Itoa1
import Derived.Shelf.LaysM
import Derived.Shelf.Strconv.Itoa2
import Derived.Shelf.Strconv.Itoa3
import Derived.Shelf.Strconv.AtoiErrFast
import Derived.Shelf.Strconv.ParseIntEmpty
import Derived.Shelf.Strconv.AtoiFail
import Derived.Shelf.Strconv.Clone
import Derived.Shelf.Strconv.SyntaxError
import Derived.Shelf.LaysC
import Derived.Shelf.Strconv.ToError
import Derived.Shelf.Strconv.Lower
import Derived.Shelf.Strconv.ParseUint10
import Derived.Shelf.Strconv.ParseUint10Empty
import Derived.Shelf.Strconv.ParseUint10Any
import Derived.Shelf.Strconv.ParseInt10
import Derived.Shelf.Strconv.AtoiLong
import Derived.Shelf.Strconv.AtoiInnerAll
import Derived.Shelf.Strconv.RangeError
import Derived.Shelf.Strconv.ToErrorRange
import Derived.Shelf.Strconv.AtoiAll
import Derived.Shelf.Strconv.ErrVarAll
import Derived.Shelf.Strconv.ParseUintEmpty
import Derived.Shelf.Strconv.ParseUint10b64
import Derived.Shelf.Strconv.ParseUint10b32
import Derived.Shelf.Strconv.ParseUint10b16
import Derived.Shelf.Strconv.ParseUint10b8
import Derived.Shelf.Strings.Search1
import Derived.Shelf.Strings.Search2
import Derived.Shelf.Strings.Search3
import Derived.Shelf.Strings.Cut
import Derived.Shelf.Strings.Count
import Derived.Shelf.Strings.Shaped
import Derived.Shelf.Strings.Prefix
import Derived.Shelf.Strings.Split
import Derived.Shelf.Strings.Replace
import Derived.Shelf.Strings.SplitShaped
import Derived.Shelf.Unicode.Decode
import Derived.Shelf.Strings.Runes
import Derived.Shelf.Strings.RuneCount
import Derived.Shelf.Strings.AsciiSet
import Derived.Shelf.Strings.Explode
import Derived.Shelf.Bits.Mul64
import Derived.Shelf.Strings.Repeat
import Derived.Shelf.Unicode.DecodeSlow
import Derived.Shelf.Unicode.DecodeAny
import Derived.Shelf.Unicode.DecodeLast
import Derived.Shelf.Slices.Turned
import Derived.Shelf.Slices.Reverse
import Derived.Shelf.Slices.Equal
import Derived.Ground.Names2Prog
import Derived.Shelf.Slices.Clone
import Derived.Shelf.Slices.SearchI
import Derived.Shelf.Slices.Cells
import Derived.Shelf.Slices.Empties
import Derived.Shelf.Slices.Empties2
import Derived.Ground.SlgnProg
import Derived.Shelf.SlicesE.Reverse
import Derived.Shelf.SlicesE.Clone
import Derived.Shelf.Bytes.Small
import Derived.Test.YtlfiejdnlcbpgaaGreatDoorCN7
import Derived.Shelf.Strings.SlTrimAscii
import Derived.Lib.SplitLaws
import Derived.Lib.ItoaLen
set_option linter.unusedVariables false
set_option linter.unusedSimpArgs false
set_option maxHeartbeats 8000000
set_option maxRecDepth 100000
namespace Go.Proofs
open Go.Shelf
def Tryz.lays156_ren:Go.Shelf.Ren:=⟨fun | 156=>29 | 165=>58 | 166=>59 | 169=>60 | 240=>91 | 241=>92 | 276=>117 | 277=>118 | n=>n,fun | 31=>39 | 9=>9 | 3=>3 | 4=>4 | 0=>0 | 20=>20 | 72=>131 | 76=>134 | 70=>129 | 37=>98 | 75=>133 | 127=>158 | 164=>212 | 5=>5 | 80=>48 | n=>n,fun | n=>n⟩
theorem Tryz.lays156:Go.Proofs.Lays.n156 Tryz.prog Tryz.lays156_ren:={
 mixed:=by kernel_rfl
 f156:=Tryz.func29.trans (congrArg some (by kernel_rfl))
 f165:=Tryz.func58.trans (congrArg some (by kernel_rfl))
 f166:=Tryz.func59.trans (congrArg some (by kernel_rfl))
 f169:=Tryz.func60.trans (congrArg some (by kernel_rfl))
 f240:=Tryz.func91.trans (congrArg some (by kernel_rfl))
 f241:=Tryz.func92.trans (congrArg some (by kernel_rfl))
 f276:=Tryz.func117.trans (congrArg some (by kernel_rfl))
 f277:=Tryz.func118.trans (congrArg some (by kernel_rfl))
 t0:=Tryz.underlying0
 a0:=Tryz.isAgg0
 z0:=Tryz.sizeOf0
 v0:=Tryz.zeroValue0
 t3:=Tryz.underlying3
 a3:=Tryz.isAgg3
 z3:=Tryz.sizeOf3
 v3:=Tryz.zeroValue3
 t4:=Tryz.underlying4
 a4:=Tryz.isAgg4
 z4:=Tryz.sizeOf4
 v4:=Tryz.zeroValue4
 t9:=Tryz.underlying9
 a9:=Tryz.isAgg9
 z9:=Tryz.sizeOf9
 v9:=Tryz.zeroValue9
 t20:=Tryz.underlying20
 a20:=Tryz.isAgg20
 z20:=Tryz.sizeOf20
 v20:=Tryz.zeroValue20
 t31:=Tryz.underlying39
 a31:=Tryz.isAgg39
 z31:=Tryz.sizeOf39
 v31:=Tryz.zeroValue39
 t37:=Tryz.underlying98
 a37:=Tryz.isAgg98
 z37:=Tryz.sizeOf98
 v37:=Tryz.zeroValue98
 t70:=Tryz.underlying129
 a70:=Tryz.isAgg129
 z70:=Tryz.sizeOf129
 v70:=Tryz.zeroValue129
 t72:=Tryz.underlying131
 a72:=Tryz.isAgg131
 z72:=Tryz.sizeOf131
 v72:=Tryz.zeroValue131
 t75:=Tryz.underlying133
 a75:=Tryz.isAgg133
 z75:=Tryz.sizeOf133
 v75:=Tryz.zeroValue133
 t76:=Tryz.underlying134
 a76:=Tryz.isAgg134
 z76:=Tryz.sizeOf134
 v76:=Tryz.zeroValue134
 t127:=Tryz.underlying158
 a127:=Tryz.isAgg158
 z127:=Tryz.sizeOf158
 v127:=Tryz.zeroValue158
 t164:=Tryz.underlying212
 a164:=Tryz.isAgg212
 z164:=Tryz.sizeOf212
 v164:=Tryz.zeroValue212 }
theorem Tryz.Builder_Extra_156:Builder.Extra Tryz.prog Tryz.lays156_ren:={
 sizeBuilder:=by kernel_rfl
 liesBuilder:=by kernel_rfl
 t5:=Tryz.underlying5
 a5:=Tryz.isAgg5
 z5:=Tryz.sizeOf5
 v5:=Tryz.zeroValue5
 infoByte:=by kernel_rfl
 cellsByte:=by kernel_rfl
 sizeByte:=by kernel_rfl
 neB5:=by decide }
open Go.RowKit in
theorem Tryz.strings_Join_none (a:Option Addr) (c:Nat) (sep:ByteArray) (w:World) :
  Calls Tryz.prog 29 #[.slice a 0 c,.string sep] w fun e w'=>e=.returned (.string ⟨#[]⟩)∧w'=w:=Any.strings_Join_none Tryz.lays156 Tryz.Builder_Extra_156 a c sep w
open Go.RowKit in
theorem Tryz.strings_Join (bk o c:Nat) (xs:List ByteArray) (sep:ByteArray) (w:World) (hcells:∀ (j:Nat) x,xs[j]?=some x→w.cell? ⟨bk,o+j,none⟩=some (.string x)) (hbk:bk < w.heap.size) (hN:xs.length≤140737488355328) (hcap:xs.length≤c) (hlen:(Lib.join (xs.map (·.data.toList)) sep.data.toList).length≤140737488355328) :
  Calls Tryz.prog 29 #[.slice (some ⟨bk,o,none⟩) xs.length c,.string sep] w fun e w'=>e=.returned (.string ⟨(Lib.join (xs.map (·.data.toList)) sep.data.toList).toArray⟩)∧Below w.heap.size w w':=Any.strings_Join Tryz.lays156 Tryz.Builder_Extra_156 bk o c xs sep w hcells hbk hN hcap hlen
def Tryz.laysM171_ren:Go.Shelf.Ren:=⟨fun | 171=>44 | 243=>77 | 246=>98 | 283=>126 | 284=>127 | 285=>128 | 286=>129 | 129=>164 | 317=>163 | 318=>165 | 319=>166 | 320=>167 | 337=>226 | 338=>227 | n=>n,fun | 3=>3 | 9=>9 | 2=>2 | 4=>4 | 171=>218 | 0=>0 | 53=>219 | 37=>98 | 5=>5 | 173=>222 | 212=>290 | 51=>286 | 20=>20 | 213=>291 | 46=>217 | 232=>478 | 233=>479 | n=>n,fun | 17=>3 | 18=>6 | 19=>7 | n=>n⟩
theorem Tryz.laysM171:Go.Proofs.LaysM.n171 Tryz.prog Tryz.laysM171_ren:={
 mixed:=by kernel_rfl
 f129:=Tryz.func164.trans (congrArg some (by kernel_rfl))
 f171:=Tryz.func44.trans (congrArg some (by kernel_rfl))
 f243:=Tryz.func77.trans (congrArg some (by kernel_rfl))
 f246:=Tryz.func98.trans (congrArg some (by kernel_rfl))
 f283:=Tryz.func126.trans (congrArg some (by kernel_rfl))
 f284:=Tryz.func127.trans (congrArg some (by kernel_rfl))
 f285:=Tryz.func128.trans (congrArg some (by kernel_rfl))
 f286:=Tryz.func129.trans (congrArg some (by kernel_rfl))
 f317:=Tryz.func163.trans (congrArg some (by kernel_rfl))
 f318:=Tryz.func165.trans (congrArg some (by kernel_rfl))
 f319:=Tryz.func166.trans (congrArg some (by kernel_rfl))
 f320:=Tryz.func167.trans (congrArg some (by kernel_rfl))
 f337:=Tryz.func226.trans (congrArg some (by kernel_rfl))
 f338:=Tryz.func227.trans (congrArg some (by kernel_rfl))
 t0:=Tryz.underlying0
 a0:=Tryz.isAgg0
 z0:=Tryz.sizeOf0
 v0:=Tryz.zeroValue0
 t2:=Tryz.underlying2
 a2:=Tryz.isAgg2
 z2:=Tryz.sizeOf2
 v2:=Tryz.zeroValue2
 t3:=Tryz.underlying3
 a3:=Tryz.isAgg3
 z3:=Tryz.sizeOf3
 v3:=Tryz.zeroValue3
 t4:=Tryz.underlying4
 a4:=Tryz.isAgg4
 z4:=Tryz.sizeOf4
 v4:=Tryz.zeroValue4
 t5:=Tryz.underlying5
 a5:=Tryz.isAgg5
 z5:=Tryz.sizeOf5
 v5:=Tryz.zeroValue5
 t9:=Tryz.underlying9
 a9:=Tryz.isAgg9
 z9:=Tryz.sizeOf9
 v9:=Tryz.zeroValue9
 t20:=Tryz.underlying20
 a20:=Tryz.isAgg20
 z20:=Tryz.sizeOf20
 v20:=Tryz.zeroValue20
 t37:=Tryz.underlying98
 a37:=Tryz.isAgg98
 z37:=Tryz.sizeOf98
 v37:=Tryz.zeroValue98
 t46:=Tryz.underlying217
 a46:=Tryz.isAgg217
 z46:=Tryz.sizeOf217
 v46:=Tryz.zeroValue217
 t51:=Tryz.underlying286
 a51:=Tryz.isAgg286
 z51:=Tryz.sizeOf286
 v51:=Tryz.zeroValue286
 t53:=Tryz.underlying219
 a53:=Tryz.isAgg219
 z53:=Tryz.sizeOf219
 v53:=Tryz.zeroValue219
 t171:=Tryz.underlying218
 a171:=Tryz.isAgg218
 z171:=Tryz.sizeOf218
 v171:=Tryz.zeroValue218
 t173:=Tryz.underlying222
 a173:=Tryz.isAgg222
 z173:=Tryz.sizeOf222
 v173:=Tryz.zeroValue222
 t212:=Tryz.underlying290
 a212:=Tryz.isAgg290
 z212:=Tryz.sizeOf290
 v212:=Tryz.zeroValue290
 t213:=Tryz.underlying291
 a213:=Tryz.isAgg291
 z213:=Tryz.sizeOf291
 t232:=Tryz.underlying478
 a232:=Tryz.isAgg478
 z232:=Tryz.sizeOf478
 v232:=Tryz.zeroValue478
 t233:=Tryz.underlying479
 a233:=Tryz.isAgg479
 z233:=Tryz.sizeOf479
 v233:=Tryz.zeroValue479
 g17:=by kernel_rfl
 g18:=by kernel_rfl
 g19:=by kernel_rfl
 i0:=by kernel_rfl
 i2:=by kernel_rfl
 i3:=by kernel_rfl
 i4:=by kernel_rfl
 i5:=by kernel_rfl
 i9:=by kernel_rfl
 i20:=by kernel_rfl
 i37:=by kernel_rfl
 i46:=by kernel_rfl
 i51:=by kernel_rfl
 i53:=by kernel_rfl
 i171:=by kernel_rfl
 i173:=by kernel_rfl
 i212:=by kernel_rfl
 i232:=by kernel_rfl
 i233:=by kernel_rfl
 m17:=by kernel_rfl
 m18:=by kernel_rfl
 m19:=by kernel_rfl }
open Go.RowKit Go.Sort Go.Lib in
theorem Tryz.strconv_Itoa (n:Int) (h0 : -9223372036854775808≤n) (h1:n≤9223372036854775807) (w:World) (htab:Lib.TabIs Tryz.prog w "internal/strconv.uint64pow10" .u64 Lib.pow10Tab) :
  Calls Tryz.prog 44 #[.int .i64 n] w fun e w'=>e=.returned (.string ⟨(Lib.itoa n).toArray⟩)∧∃ k os,w'=grow (w.drewN k) os:=Any.strconv_Itoa Tryz.laysM171 n h0 h1 w htab
def Tryz.laysC172_ren:Go.Shelf.Ren:=⟨fun | 172=>93 | 244=>119 | 245=>120 | 247=>156 | 279=>157 | 280=>158 | 281=>159 | 282=>160 | 287=>223 | 316=>224 | 171=>44 | 205=>225 | 321=>324 | 322=>325 | 243=>77 | 246=>98 | 283=>126 | 284=>127 | 285=>128 | 286=>129 | 129=>164 | 317=>163 | 318=>165 | 319=>166 | 320=>167 | 337=>226 | 338=>227 | n=>n,fun | 9=>9 | 3=>3 | 75=>133 | 76=>134 | 4=>4 | 5=>5 | 167=>276 | 37=>98 | 0=>0 | 85=>277 | 2=>2 | 168=>279 | 53=>219 | 175=>369 | 46=>217 | 210=>372 | 127=>158 | 145=>477 | 143=>475 | 21=>21 | 171=>218 | 173=>222 | 212=>290 | 51=>286 | 20=>20 | 213=>291 | 232=>478 | 233=>479 | 80=>48 | n=>n,fun | 15=>4 | 16=>5 | 17=>3 | 18=>6 | 19=>7 | n=>n⟩
theorem Tryz.laysC172:Go.Proofs.LaysC.n172 Tryz.prog Tryz.laysC172_ren:={
 mixed:=by kernel_rfl
 f129:=Tryz.func164.trans (congrArg some (by kernel_rfl))
 f171:=Tryz.func44.trans (congrArg some (by kernel_rfl))
 f172:=Tryz.func93.trans (congrArg some (by kernel_rfl))
 f205:=Tryz.func225.trans (congrArg some (by kernel_rfl))
 f243:=Tryz.func77.trans (congrArg some (by kernel_rfl))
 f244:=Tryz.func119.trans (congrArg some (by kernel_rfl))
 f245:=Tryz.func120.trans (congrArg some (by kernel_rfl))
 f246:=Tryz.func98.trans (congrArg some (by kernel_rfl))
 f247:=Tryz.func156.trans (congrArg some (by kernel_rfl))
 f279:=Tryz.func157.trans (congrArg some (by kernel_rfl))
 f280:=Tryz.func158.trans (congrArg some (by kernel_rfl))
 f281:=Tryz.func159.trans (congrArg some (by kernel_rfl))
 f282:=Tryz.func160.trans (congrArg some (by kernel_rfl))
 f283:=Tryz.func126.trans (congrArg some (by kernel_rfl))
 f284:=Tryz.func127.trans (congrArg some (by kernel_rfl))
 f285:=Tryz.func128.trans (congrArg some (by kernel_rfl))
 f286:=Tryz.func129.trans (congrArg some (by kernel_rfl))
 f287:=Tryz.func223.trans (congrArg some (by kernel_rfl))
 f316:=Tryz.func224.trans (congrArg some (by kernel_rfl))
 f317:=Tryz.func163.trans (congrArg some (by kernel_rfl))
 f318:=Tryz.func165.trans (congrArg some (by kernel_rfl))
 f319:=Tryz.func166.trans (congrArg some (by kernel_rfl))
 f320:=Tryz.func167.trans (congrArg some (by kernel_rfl))
 f321:=Tryz.func324.trans (congrArg some (by kernel_rfl))
 f322:=Tryz.func325.trans (congrArg some (by kernel_rfl))
 f337:=Tryz.func226.trans (congrArg some (by kernel_rfl))
 f338:=Tryz.func227.trans (congrArg some (by kernel_rfl))
 t0:=Tryz.underlying0
 a0:=Tryz.isAgg0
 z0:=Tryz.sizeOf0
 v0:=Tryz.zeroValue0
 t2:=Tryz.underlying2
 a2:=Tryz.isAgg2
 z2:=Tryz.sizeOf2
 v2:=Tryz.zeroValue2
 t3:=Tryz.underlying3
 a3:=Tryz.isAgg3
 z3:=Tryz.sizeOf3
 v3:=Tryz.zeroValue3
 t4:=Tryz.underlying4
 a4:=Tryz.isAgg4
 z4:=Tryz.sizeOf4
 v4:=Tryz.zeroValue4
 t5:=Tryz.underlying5
 a5:=Tryz.isAgg5
 z5:=Tryz.sizeOf5
 v5:=Tryz.zeroValue5
 t9:=Tryz.underlying9
 a9:=Tryz.isAgg9
 z9:=Tryz.sizeOf9
 v9:=Tryz.zeroValue9
 t20:=Tryz.underlying20
 a20:=Tryz.isAgg20
 z20:=Tryz.sizeOf20
 v20:=Tryz.zeroValue20
 t21:=Tryz.underlying21
 a21:=Tryz.isAgg21
 z21:=Tryz.sizeOf21
 v21:=Tryz.zeroValue21
 t37:=Tryz.underlying98
 a37:=Tryz.isAgg98
 z37:=Tryz.sizeOf98
 v37:=Tryz.zeroValue98
 t46:=Tryz.underlying217
 a46:=Tryz.isAgg217
 z46:=Tryz.sizeOf217
 v46:=Tryz.zeroValue217
 t51:=Tryz.underlying286
 a51:=Tryz.isAgg286
 z51:=Tryz.sizeOf286
 v51:=Tryz.zeroValue286
 t53:=Tryz.underlying219
 a53:=Tryz.isAgg219
 z53:=Tryz.sizeOf219
 v53:=Tryz.zeroValue219
 t75:=Tryz.underlying133
 a75:=Tryz.isAgg133
 z75:=Tryz.sizeOf133
 v75:=Tryz.zeroValue133
 t76:=Tryz.underlying134
 a76:=Tryz.isAgg134
 z76:=Tryz.sizeOf134
 v76:=Tryz.zeroValue134
 t85:=Tryz.underlying277
 a85:=Tryz.isAgg277
 z85:=Tryz.sizeOf277
 v85:=Tryz.zeroValue277
 t127:=Tryz.underlying158
 a127:=Tryz.isAgg158
 z127:=Tryz.sizeOf158
 v127:=Tryz.zeroValue158
 t143:=Tryz.underlying475
 a143:=Tryz.isAgg475
 z143:=Tryz.sizeOf475
 v143:=Tryz.zeroValue475
 t145:=Tryz.underlying477
 a145:=Tryz.isAgg477
 z145:=Tryz.sizeOf477
 v145:=Tryz.zeroValue477
 t167:=Tryz.underlying276
 a167:=Tryz.isAgg276
 z167:=Tryz.sizeOf276
 v167:=Tryz.zeroValue276
 t168:=Tryz.underlying279
 a168:=Tryz.isAgg279
 z168:=Tryz.sizeOf279
 v168:=Tryz.zeroValue279
 t171:=Tryz.underlying218
 a171:=Tryz.isAgg218
 z171:=Tryz.sizeOf218
 v171:=Tryz.zeroValue218
 t173:=Tryz.underlying222
 a173:=Tryz.isAgg222
 z173:=Tryz.sizeOf222
 v173:=Tryz.zeroValue222
 t175:=Tryz.underlying369
 a175:=Tryz.isAgg369
 z175:=Tryz.sizeOf369
 v175:=Tryz.zeroValue369
 t210:=Tryz.underlying372
 a210:=Tryz.isAgg372
 z210:=Tryz.sizeOf372
 v210:=Tryz.zeroValue372
 t212:=Tryz.underlying290
 a212:=Tryz.isAgg290
 z212:=Tryz.sizeOf290
 v212:=Tryz.zeroValue290
 t213:=Tryz.underlying291
 a213:=Tryz.isAgg291
 z213:=Tryz.sizeOf291
 t232:=Tryz.underlying478
 a232:=Tryz.isAgg478
 z232:=Tryz.sizeOf478
 v232:=Tryz.zeroValue478
 t233:=Tryz.underlying479
 a233:=Tryz.isAgg479
 z233:=Tryz.sizeOf479
 v233:=Tryz.zeroValue479
 g15:=by kernel_rfl
 g16:=by kernel_rfl
 g17:=by kernel_rfl
 g18:=by kernel_rfl
 g19:=by kernel_rfl
 t80:=Tryz.underlying48
 a80:=Tryz.isAgg48
 z80:=Tryz.sizeOf48
 v80:=Tryz.zeroValue48
 i0:=by kernel_rfl
 i2:=by kernel_rfl
 i3:=by kernel_rfl
 i4:=by kernel_rfl
 i5:=by kernel_rfl
 i9:=by kernel_rfl
 i20:=by kernel_rfl
 i21:=by kernel_rfl
 i37:=by kernel_rfl
 i46:=by kernel_rfl
 i51:=by kernel_rfl
 i53:=by kernel_rfl
 i75:=by kernel_rfl
 i76:=by kernel_rfl
 i80:=by kernel_rfl
 i85:=by kernel_rfl
 i127:=by kernel_rfl
 i143:=by kernel_rfl
 i145:=by kernel_rfl
 i167:=by kernel_rfl
 i168:=by kernel_rfl
 i171:=by kernel_rfl
 i173:=by kernel_rfl
 i175:=by kernel_rfl
 i210:=by kernel_rfl
 i212:=by kernel_rfl
 i232:=by kernel_rfl
 i233:=by kernel_rfl
 m15:=by kernel_rfl
 m16:=by kernel_rfl
 m17:=by kernel_rfl
 m18:=by kernel_rfl
 m19:=by kernel_rfl
 c0:=by kernel_rfl
 c2:=by kernel_rfl
 c3:=by kernel_rfl
 c4:=by kernel_rfl
 c5:=by kernel_rfl
 c9:=by kernel_rfl
 c20:=by kernel_rfl
 c21:=by kernel_rfl
 c37:=by kernel_rfl
 c46:=by kernel_rfl
 c51:=by kernel_rfl
 c53:=by kernel_rfl
 c75:=by kernel_rfl
 c76:=by kernel_rfl
 c80:=by kernel_rfl
 c85:=by kernel_rfl
 c127:=by kernel_rfl
 c143:=by kernel_rfl
 c145:=by kernel_rfl
 c167:=by kernel_rfl
 c168:=by kernel_rfl
 c171:=by kernel_rfl
 c173:=by kernel_rfl
 c175:=by kernel_rfl
 c210:=by kernel_rfl
 c212:=by kernel_rfl
 c213:=by kernel_rfl
 c232:=by kernel_rfl
 c233:=by kernel_rfl }
open Go.RowKit in
theorem Tryz.strconv_Atoi_ok (s:ByteArray) (hmax:s.size≤9223372036854775806) (v:Int) (h:Lib.atoiAll s.data.toList=.ok v) (w:World) :
  Calls Tryz.prog 93 #[.string s] w fun e w'=>e=.returned (.tuple #[.int .i64 v,.nilIface])∧(w'=w∨∃ t,w'=Lib.bytesWorld w 5 t):=Any.strconv_Atoi_ok Tryz.laysC172 s hmax v h w
open Go.RowKit in
theorem Tryz.strconv_Atoi_syntax (s:ByteArray) (hlim:s.size≤281474976710656) (h:Lib.atoiAll s.data.toList=Lib.atoiAll []) (ev:Value) (w:World) (hv:w.cell? ⟨4,0,none⟩=some ev) (hev:ev=.nilIface∨∃ te pe,ev=.iface te pe) :
  Calls Tryz.prog 93 #[.string s] w fun e w'=>∃ N,e=.returned (.tuple #[.int .i64 (0),.iface 279 (.pointer (some ⟨N,0,none⟩))])∧w.heap.size≤N∧w'.heap[N]?=some (.cells #[.string ⟨#[65,116,111,105]⟩,.string s,ev] 372 (0,0))∧Below w.heap.size w w':=Any.strconv_Atoi_syntax Tryz.laysC172 s hlim h ev w hv hev
open Go.RowKit in
theorem Tryz.strconv_Atoi_range (s:ByteArray) (hlim:s.size≤281474976710656) (h:Lib.atoiAll s.data.toList=.range) (ev:Value) (w:World) (hv:w.cell? ⟨5,0,none⟩=some ev) (hev:ev=.nilIface∨∃ te pe,ev=.iface te pe) :
  Calls Tryz.prog 93 #[.string s] w fun e w'=>∃ N,e=.returned (.tuple #[.int .i64 (Lib.atoiSat s.data.toList),.iface 279 (.pointer (some ⟨N,0,none⟩))])∧w.heap.size≤N∧w'.heap[N]?=some (.cells #[.string ⟨#[65,116,111,105]⟩,.string s,ev] 372 (0,0))∧Below w.heap.size w w':=Any.strconv_Atoi_range Tryz.laysC172 s hlim h ev w hv hev
def Tryz.lays144_ren:Go.Shelf.Ren:=⟨fun | 144=>55 | 143=>75 | 219=>97 | 217=>122 | 225=>123 | 224=>124 | 267=>125 | 266=>161 | 314=>162 | n=>n,fun | 9=>9 | 4=>4 | 3=>3 | 5=>5 | 46=>217 | 146=>287 | 51=>286 | n=>n,fun | 1=>0 | n=>n⟩
theorem Tryz.lays144:Go.Proofs.Lays.n144 Tryz.prog Tryz.lays144_ren:={
 mixed:=by kernel_rfl
 f143:=Tryz.func75.trans (congrArg some (by kernel_rfl))
 f144:=Tryz.func55.trans (congrArg some (by kernel_rfl))
 f217:=Tryz.func122.trans (congrArg some (by kernel_rfl))
 f219:=Tryz.func97.trans (congrArg some (by kernel_rfl))
 f224:=Tryz.func124.trans (congrArg some (by kernel_rfl))
 f225:=Tryz.func123.trans (congrArg some (by kernel_rfl))
 f266:=Tryz.func161.trans (congrArg some (by kernel_rfl))
 f267:=Tryz.func125.trans (congrArg some (by kernel_rfl))
 f314:=Tryz.func162.trans (congrArg some (by kernel_rfl))
 t3:=Tryz.underlying3
 a3:=Tryz.isAgg3
 z3:=Tryz.sizeOf3
 v3:=Tryz.zeroValue3
 t4:=Tryz.underlying4
 a4:=Tryz.isAgg4
 z4:=Tryz.sizeOf4
 v4:=Tryz.zeroValue4
 t5:=Tryz.underlying5
 a5:=Tryz.isAgg5
 z5:=Tryz.sizeOf5
 v5:=Tryz.zeroValue5
 t9:=Tryz.underlying9
 a9:=Tryz.isAgg9
 z9:=Tryz.sizeOf9
 v9:=Tryz.zeroValue9
 t46:=Tryz.underlying217
 a46:=Tryz.isAgg217
 z46:=Tryz.sizeOf217
 v46:=Tryz.zeroValue217
 t51:=Tryz.underlying286
 a51:=Tryz.isAgg286
 z51:=Tryz.sizeOf286
 v51:=Tryz.zeroValue286
 t146:=Tryz.underlying287
 a146:=Tryz.isAgg287
 z146:=Tryz.sizeOf287
 v146:=Tryz.zeroValue287
 g1:=by kernel_rfl }
open Go.RowKit Go.Lib in
theorem Tryz.strings_Contains_one (s:ByteArray) (c:UInt8) (w:World) :
  Calls Tryz.prog 55 #[.string s,.string ⟨#[c]⟩] w fun e w'=>e=.returned (.bool (decide (0≤Lib.indexByte s.data.toList c)))∧w'=w:=Any.strings_Contains_one Tryz.lays144 s c w
def Tryz.lays99_ren:Go.Shelf.Ren:=⟨fun | 99=>52 | 206=>89 | n=>n,fun | 9=>9 | 4=>4 | 3=>3 | n=>n,fun | n=>n⟩
theorem Tryz.lays99:Go.Proofs.Lays.n99 Tryz.prog Tryz.lays99_ren:={
 mixed:=by kernel_rfl
 f99:=Tryz.func52.trans (congrArg some (by kernel_rfl))
 f206:=Tryz.func89.trans (congrArg some (by kernel_rfl))
 t3:=Tryz.underlying3
 a3:=Tryz.isAgg3
 z3:=Tryz.sizeOf3
 v3:=Tryz.zeroValue3
 t4:=Tryz.underlying4
 a4:=Tryz.isAgg4
 z4:=Tryz.sizeOf4
 v4:=Tryz.zeroValue4
 t9:=Tryz.underlying9
 a9:=Tryz.isAgg9
 z9:=Tryz.sizeOf9
 v9:=Tryz.zeroValue9 }
open Go.RowKit Go.Lib in
theorem Tryz.strings_HasPrefix (s p:ByteArray) (w:World) :
  Calls Tryz.prog 52 #[.string s,.string p] w fun e w'=>e=.returned (.bool (Lib.hasPrefix s.data.toList p.data.toList))∧w'=w:=Any.strings_HasPrefix Tryz.lays99 s p w
def Tryz.lays102_ren:Go.Shelf.Ren:=⟨fun | 102=>21 | 209=>43 | 207=>76 | n=>n,fun | 9=>9 | 4=>4 | 3=>3 | n=>n,fun | n=>n⟩
theorem Tryz.lays102:Go.Proofs.Lays.n102 Tryz.prog Tryz.lays102_ren:={
 mixed:=by kernel_rfl
 f102:=Tryz.func21.trans (congrArg some (by kernel_rfl))
 f207:=Tryz.func76.trans (congrArg some (by kernel_rfl))
 f209:=Tryz.func43.trans (congrArg some (by kernel_rfl))
 t3:=Tryz.underlying3
 a3:=Tryz.isAgg3
 z3:=Tryz.sizeOf3
 v3:=Tryz.zeroValue3
 t4:=Tryz.underlying4
 a4:=Tryz.isAgg4
 z4:=Tryz.sizeOf4
 v4:=Tryz.zeroValue4
 t9:=Tryz.underlying9
 a9:=Tryz.isAgg9
 z9:=Tryz.sizeOf9
 v9:=Tryz.zeroValue9 }
open Go.RowKit Go.Lib in
theorem Tryz.strings_TrimSuffix (s p:ByteArray) (w:World) (hs:s.size≤9223372036854775807) :
  Calls Tryz.prog 21 #[.string s,.string p] w fun e w'=>e=.returned (.string ⟨(Lib.trimSuffix s.data.toList p.data.toList).toArray⟩)∧w'=w:=Any.strings_TrimSuffix Tryz.lays102 s p w hs
def Tryz.lays146_ren:Go.Shelf.Ren:=⟨fun | 146=>20 | 221=>42 | 268=>73 | 138=>74 | 143=>75 | 195=>94 | 197=>95 | 218=>96 | 219=>97 | 260=>121 | 217=>122 | 225=>123 | 224=>124 | 267=>125 | 266=>161 | 314=>162 | n=>n,fun | 9=>9 | 31=>39 | 3=>3 | 4=>4 | 0=>0 | 105=>159 | 21=>21 | 5=>5 | 46=>217 | 119=>282 | 139=>285 | 138=>284 | 146=>287 | 51=>286 | n=>n,fun | 1=>0 | 3=>1 | 4=>2 | n=>n⟩
theorem Tryz.lays146:Go.Proofs.Lays.n146 Tryz.prog Tryz.lays146_ren:={
 mixed:=by kernel_rfl
 f138:=Tryz.func74.trans (congrArg some (by kernel_rfl))
 f143:=Tryz.func75.trans (congrArg some (by kernel_rfl))
 f146:=Tryz.func20.trans (congrArg some (by kernel_rfl))
 f195:=Tryz.func94.trans (congrArg some (by kernel_rfl))
 f197:=Tryz.func95.trans (congrArg some (by kernel_rfl))
 f217:=Tryz.func122.trans (congrArg some (by kernel_rfl))
 f218:=Tryz.func96.trans (congrArg some (by kernel_rfl))
 f219:=Tryz.func97.trans (congrArg some (by kernel_rfl))
 f221:=Tryz.func42.trans (congrArg some (by kernel_rfl))
 f224:=Tryz.func124.trans (congrArg some (by kernel_rfl))
 f225:=Tryz.func123.trans (congrArg some (by kernel_rfl))
 f260:=Tryz.func121.trans (congrArg some (by kernel_rfl))
 f266:=Tryz.func161.trans (congrArg some (by kernel_rfl))
 f267:=Tryz.func125.trans (congrArg some (by kernel_rfl))
 f268:=Tryz.func73.trans (congrArg some (by kernel_rfl))
 f314:=Tryz.func162.trans (congrArg some (by kernel_rfl))
 t0:=Tryz.underlying0
 a0:=Tryz.isAgg0
 z0:=Tryz.sizeOf0
 v0:=Tryz.zeroValue0
 t3:=Tryz.underlying3
 a3:=Tryz.isAgg3
 z3:=Tryz.sizeOf3
 v3:=Tryz.zeroValue3
 t4:=Tryz.underlying4
 a4:=Tryz.isAgg4
 z4:=Tryz.sizeOf4
 v4:=Tryz.zeroValue4
 t5:=Tryz.underlying5
 a5:=Tryz.isAgg5
 z5:=Tryz.sizeOf5
 v5:=Tryz.zeroValue5
 t9:=Tryz.underlying9
 a9:=Tryz.isAgg9
 z9:=Tryz.sizeOf9
 v9:=Tryz.zeroValue9
 t21:=Tryz.underlying21
 a21:=Tryz.isAgg21
 z21:=Tryz.sizeOf21
 v21:=Tryz.zeroValue21
 t31:=Tryz.underlying39
 a31:=Tryz.isAgg39
 z31:=Tryz.sizeOf39
 v31:=Tryz.zeroValue39
 t46:=Tryz.underlying217
 a46:=Tryz.isAgg217
 z46:=Tryz.sizeOf217
 v46:=Tryz.zeroValue217
 t51:=Tryz.underlying286
 a51:=Tryz.isAgg286
 z51:=Tryz.sizeOf286
 v51:=Tryz.zeroValue286
 t105:=Tryz.underlying159
 a105:=Tryz.isAgg159
 z105:=Tryz.sizeOf159
 v105:=Tryz.zeroValue159
 t119:=Tryz.underlying282
 a119:=Tryz.isAgg282
 z119:=Tryz.sizeOf282
 t138:=Tryz.underlying284
 a138:=Tryz.isAgg284
 z138:=Tryz.sizeOf284
 v138:=Tryz.zeroValue284
 t139:=Tryz.underlying285
 a139:=Tryz.isAgg285
 z139:=Tryz.sizeOf285
 v139:=Tryz.zeroValue285
 t146:=Tryz.underlying287
 a146:=Tryz.isAgg287
 z146:=Tryz.sizeOf287
 v146:=Tryz.zeroValue287
 g1:=by kernel_rfl
 g3:=by kernel_rfl
 g4:=by kernel_rfl }
open Go.RowKit Go.Lib in
theorem Tryz.strings_Split (s sep:ByteArray) (m:Int) (w:World) (hs:s.size < 4294967281) (hm:w.cell? ⟨0,0,none⟩=some (.int .i64 m)) (h1:1≤sep.size) :
  Calls Tryz.prog 20 #[.string s,.string sep] w fun e w' =>
   e=.returned (.slice (some ⟨w.heap.size,0,none⟩) (Lib.countB s sep+1) (Lib.countB s sep+1))∧w'=w.alloc (.cells ((Lib.splitB sep 0 (Lib.countB s sep) s).map Value.string).toArray 9):=Any.strings_Split Tryz.lays146 (by kernel_rfl) s sep m w hs hm h1
def Tryz.lays147_ren:Go.Shelf.Ren:=⟨fun | 147=>32 | 221=>42 | 268=>73 | 138=>74 | 143=>75 | 195=>94 | 197=>95 | 218=>96 | 219=>97 | 260=>121 | 217=>122 | 225=>123 | 224=>124 | 267=>125 | 266=>161 | 314=>162 | n=>n,fun | 9=>9 | 3=>3 | 31=>39 | 4=>4 | 0=>0 | 105=>159 | 21=>21 | 5=>5 | 46=>217 | 119=>282 | 139=>285 | 138=>284 | 146=>287 | 51=>286 | n=>n,fun | 1=>0 | 3=>1 | 4=>2 | n=>n⟩
theorem Tryz.lays147:Go.Proofs.Lays.n147 Tryz.prog Tryz.lays147_ren:={
 mixed:=by kernel_rfl
 f138:=Tryz.func74.trans (congrArg some (by kernel_rfl))
 f143:=Tryz.func75.trans (congrArg some (by kernel_rfl))
 f147:=Tryz.func32.trans (congrArg some (by kernel_rfl))
 f195:=Tryz.func94.trans (congrArg some (by kernel_rfl))
 f197:=Tryz.func95.trans (congrArg some (by kernel_rfl))
 f217:=Tryz.func122.trans (congrArg some (by kernel_rfl))
 f218:=Tryz.func96.trans (congrArg some (by kernel_rfl))
 f219:=Tryz.func97.trans (congrArg some (by kernel_rfl))
 f221:=Tryz.func42.trans (congrArg some (by kernel_rfl))
 f224:=Tryz.func124.trans (congrArg some (by kernel_rfl))
 f225:=Tryz.func123.trans (congrArg some (by kernel_rfl))
 f260:=Tryz.func121.trans (congrArg some (by kernel_rfl))
 f266:=Tryz.func161.trans (congrArg some (by kernel_rfl))
 f267:=Tryz.func125.trans (congrArg some (by kernel_rfl))
 f268:=Tryz.func73.trans (congrArg some (by kernel_rfl))
 f314:=Tryz.func162.trans (congrArg some (by kernel_rfl))
 t0:=Tryz.underlying0
 a0:=Tryz.isAgg0
 z0:=Tryz.sizeOf0
 v0:=Tryz.zeroValue0
 t3:=Tryz.underlying3
 a3:=Tryz.isAgg3
 z3:=Tryz.sizeOf3
 v3:=Tryz.zeroValue3
 t4:=Tryz.underlying4
 a4:=Tryz.isAgg4
 z4:=Tryz.sizeOf4
 v4:=Tryz.zeroValue4
 t5:=Tryz.underlying5
 a5:=Tryz.isAgg5
 z5:=Tryz.sizeOf5
 v5:=Tryz.zeroValue5
 t9:=Tryz.underlying9
 a9:=Tryz.isAgg9
 z9:=Tryz.sizeOf9
 v9:=Tryz.zeroValue9
 t21:=Tryz.underlying21
 a21:=Tryz.isAgg21
 z21:=Tryz.sizeOf21
 v21:=Tryz.zeroValue21
 t31:=Tryz.underlying39
 a31:=Tryz.isAgg39
 z31:=Tryz.sizeOf39
 v31:=Tryz.zeroValue39
 t46:=Tryz.underlying217
 a46:=Tryz.isAgg217
 z46:=Tryz.sizeOf217
 v46:=Tryz.zeroValue217
 t51:=Tryz.underlying286
 a51:=Tryz.isAgg286
 z51:=Tryz.sizeOf286
 v51:=Tryz.zeroValue286
 t105:=Tryz.underlying159
 a105:=Tryz.isAgg159
 z105:=Tryz.sizeOf159
 v105:=Tryz.zeroValue159
 t119:=Tryz.underlying282
 a119:=Tryz.isAgg282
 z119:=Tryz.sizeOf282
 t138:=Tryz.underlying284
 a138:=Tryz.isAgg284
 z138:=Tryz.sizeOf284
 v138:=Tryz.zeroValue284
 t139:=Tryz.underlying285
 a139:=Tryz.isAgg285
 z139:=Tryz.sizeOf285
 v139:=Tryz.zeroValue285
 t146:=Tryz.underlying287
 a146:=Tryz.isAgg287
 z146:=Tryz.sizeOf287
 v146:=Tryz.zeroValue287
 g1:=by kernel_rfl
 g3:=by kernel_rfl
 g4:=by kernel_rfl }
open Go.RowKit Go.Lib in
theorem Tryz.strings_SplitN (s sep:ByteArray) (n:Nat) (m:Int) (w:World) (hs:s.size < 4294967281) (hm:w.cell? ⟨0,0,none⟩=some (.int .i64 m)) (h1:1≤sep.size) (hn:1≤n) (hn63:n≤9223372036854775807) :
  Calls Tryz.prog 32 #[.string s,.string sep,.int .i64 n] w fun e w' =>
   e=.returned (.slice (some ⟨w.heap.size,0,none⟩) (Lib.splitB sep 0 (min n (s.size+1)-1) s).length (min n (s.size+1)))∧w'=w.alloc (.cells (Lib.cellsOf (Lib.splitB sep 0 (min n (s.size+1)-1) s) (min n (s.size+1))) 9):=Any.strings_SplitN Tryz.lays147 (by kernel_rfl) s sep n m w hs hm h1 hn hn63
def Tryz.lays155_ren:Go.Shelf.Ren:=⟨fun | 155=>46 | 154=>81 | 138=>74 | 165=>58 | 143=>75 | 166=>59 | 197=>95 | 169=>60 | 195=>94 | 218=>96 | 240=>91 | 241=>92 | 219=>97 | 260=>121 | 276=>117 | 277=>118 | 217=>122 | 225=>123 | 224=>124 | 267=>125 | 266=>161 | 314=>162 | n=>n,fun | 9=>9 | 3=>3 | 4=>4 | 72=>131 | 0=>0 | 76=>134 | 105=>159 | 21=>21 | 5=>5 | 70=>129 | 20=>20 | 37=>98 | 75=>133 | 127=>158 | 164=>212 | 46=>217 | 119=>282 | 139=>285 | 138=>284 | 146=>287 | 51=>286 | 80=>48 | n=>n,fun | 1=>0 | 3=>1 | 4=>2 | n=>n⟩
theorem Tryz.lays155:Go.Proofs.Lays.n155 Tryz.prog Tryz.lays155_ren:={
 mixed:=by kernel_rfl
 f138:=Tryz.func74.trans (congrArg some (by kernel_rfl))
 f143:=Tryz.func75.trans (congrArg some (by kernel_rfl))
 f154:=Tryz.func81.trans (congrArg some (by kernel_rfl))
 f155:=Tryz.func46.trans (congrArg some (by kernel_rfl))
 f165:=Tryz.func58.trans (congrArg some (by kernel_rfl))
 f166:=Tryz.func59.trans (congrArg some (by kernel_rfl))
 f169:=Tryz.func60.trans (congrArg some (by kernel_rfl))
 f195:=Tryz.func94.trans (congrArg some (by kernel_rfl))
 f197:=Tryz.func95.trans (congrArg some (by kernel_rfl))
 f217:=Tryz.func122.trans (congrArg some (by kernel_rfl))
 f218:=Tryz.func96.trans (congrArg some (by kernel_rfl))
 f219:=Tryz.func97.trans (congrArg some (by kernel_rfl))
 f224:=Tryz.func124.trans (congrArg some (by kernel_rfl))
 f225:=Tryz.func123.trans (congrArg some (by kernel_rfl))
 f240:=Tryz.func91.trans (congrArg some (by kernel_rfl))
 f241:=Tryz.func92.trans (congrArg some (by kernel_rfl))
 f260:=Tryz.func121.trans (congrArg some (by kernel_rfl))
 f266:=Tryz.func161.trans (congrArg some (by kernel_rfl))
 f267:=Tryz.func125.trans (congrArg some (by kernel_rfl))
 f276:=Tryz.func117.trans (congrArg some (by kernel_rfl))
 f277:=Tryz.func118.trans (congrArg some (by kernel_rfl))
 f314:=Tryz.func162.trans (congrArg some (by kernel_rfl))
 t0:=Tryz.underlying0
 a0:=Tryz.isAgg0
 z0:=Tryz.sizeOf0
 v0:=Tryz.zeroValue0
 t3:=Tryz.underlying3
 a3:=Tryz.isAgg3
 z3:=Tryz.sizeOf3
 v3:=Tryz.zeroValue3
 t4:=Tryz.underlying4
 a4:=Tryz.isAgg4
 z4:=Tryz.sizeOf4
 v4:=Tryz.zeroValue4
 t5:=Tryz.underlying5
 a5:=Tryz.isAgg5
 z5:=Tryz.sizeOf5
 v5:=Tryz.zeroValue5
 t9:=Tryz.underlying9
 a9:=Tryz.isAgg9
 z9:=Tryz.sizeOf9
 v9:=Tryz.zeroValue9
 t20:=Tryz.underlying20
 a20:=Tryz.isAgg20
 z20:=Tryz.sizeOf20
 v20:=Tryz.zeroValue20
 t21:=Tryz.underlying21
 a21:=Tryz.isAgg21
 z21:=Tryz.sizeOf21
 v21:=Tryz.zeroValue21
 t37:=Tryz.underlying98
 a37:=Tryz.isAgg98
 z37:=Tryz.sizeOf98
 v37:=Tryz.zeroValue98
 t46:=Tryz.underlying217
 a46:=Tryz.isAgg217
 z46:=Tryz.sizeOf217
 v46:=Tryz.zeroValue217
 t51:=Tryz.underlying286
 a51:=Tryz.isAgg286
 z51:=Tryz.sizeOf286
 v51:=Tryz.zeroValue286
 t70:=Tryz.underlying129
 a70:=Tryz.isAgg129
 z70:=Tryz.sizeOf129
 v70:=Tryz.zeroValue129
 t72:=Tryz.underlying131
 a72:=Tryz.isAgg131
 z72:=Tryz.sizeOf131
 v72:=Tryz.zeroValue131
 t75:=Tryz.underlying133
 a75:=Tryz.isAgg133
 z75:=Tryz.sizeOf133
 v75:=Tryz.zeroValue133
 t76:=Tryz.underlying134
 a76:=Tryz.isAgg134
 z76:=Tryz.sizeOf134
 v76:=Tryz.zeroValue134
 t105:=Tryz.underlying159
 a105:=Tryz.isAgg159
 z105:=Tryz.sizeOf159
 v105:=Tryz.zeroValue159
 t119:=Tryz.underlying282
 a119:=Tryz.isAgg282
 z119:=Tryz.sizeOf282
 t127:=Tryz.underlying158
 a127:=Tryz.isAgg158
 z127:=Tryz.sizeOf158
 v127:=Tryz.zeroValue158
 t138:=Tryz.underlying284
 a138:=Tryz.isAgg284
 z138:=Tryz.sizeOf284
 v138:=Tryz.zeroValue284
 t139:=Tryz.underlying285
 a139:=Tryz.isAgg285
 z139:=Tryz.sizeOf285
 v139:=Tryz.zeroValue285
 t146:=Tryz.underlying287
 a146:=Tryz.isAgg287
 z146:=Tryz.sizeOf287
 v146:=Tryz.zeroValue287
 t164:=Tryz.underlying212
 a164:=Tryz.isAgg212
 z164:=Tryz.sizeOf212
 v164:=Tryz.zeroValue212
 g1:=by kernel_rfl
 g3:=by kernel_rfl
 g4:=by kernel_rfl }
theorem Tryz.Builder_Extra_155:Builder.Extra Tryz.prog Tryz.lays155_ren:={
 sizeBuilder:=by kernel_rfl
 liesBuilder:=by kernel_rfl
 t5:=Tryz.underlying5
 a5:=Tryz.isAgg5
 z5:=Tryz.sizeOf5
 v5:=Tryz.zeroValue5
 infoByte:=by kernel_rfl
 cellsByte:=by kernel_rfl
 sizeByte:=by kernel_rfl
 neB5:=by decide }
open Go.RowKit Go.Lib in
theorem Tryz.strings_ReplaceAll (s old new:ByteArray) (m:Int) (w:World) (hs:s.size < 4294967281) (hm:w.cell? ⟨0,0,none⟩=some (.int .i64 m)) (h1:1≤old.size) (hlen:s.size+Lib.countB s old*new.size≤140737488355328) :
  Calls Tryz.prog 46 #[.string s,.string old,.string new] w fun e w' =>
   e=.returned (.string ⟨(Lib.replaceAll s.data.toList old.data.toList new.data.toList).toArray⟩)∧Below w.heap.size w w':=Any.strings_ReplaceAll Tryz.lays155 Tryz.Builder_Extra_155 s old new m w hs hm h1 hlen
end Go.Proofs
namespace Tdoc
open Go Go.Proofs
end Tdoc
namespace Tdoc
open Go Go.Proofs Go.RowKit
theorem qIf {f:FuncId} {fn:Func} (h:Tryz.prog.funcs[f]?=some fn) (h1:(fn.name == "runtime.NumGoroutine")=false) (h2:fn.body.isNone=false):∃ fn,Tryz.prog.funcs[f]?=some fn∧(fn.name == "runtime.NumGoroutine")=false∧fn.body.isNone=false:=⟨fn,h,h1,h2⟩
theorem args1 {G:Gh} {x:AV} {vals:Array Value} (h1:vals.size=[x].length) (h2:∀ (j:Nat) (y:AV) (v:Value),[x][j]?=some y→vals[j]?=some v→RepA G y v):∃ v,vals = #[v]∧RepA G x v:=by
 obtain ⟨l⟩:=vals
 match l,h1 with
 | [v],_=>exact ⟨v,rfl,h2 0 _ _ rfl rfl⟩
theorem args2 {G:Gh} {x y:AV} {vals:Array Value} (h1:vals.size=[x,y].length) (h2:∀ (j:Nat) (z:AV) (v:Value),[x,y][j]?=some z→vals[j]?=some v→RepA G z v):∃ u v,vals = #[u,v]∧RepA G x u∧RepA G y v:=by
 obtain ⟨l⟩:=vals
 match l,h1 with
 | [u,v],_=>exact ⟨u,v,rfl,h2 0 _ _ rfl rfl,h2 1 _ _ rfl rfl⟩
theorem args3 {G:Gh} {x y z:AV} {vals:Array Value} (h1:vals.size=[x,y,z].length) (h2:∀ (j:Nat) (a:AV) (v:Value),[x,y,z][j]?=some a→vals[j]?=some v→RepA G a v):∃ u v s,vals = #[u,v,s]∧RepA G x u∧RepA G y v∧RepA G z s:=by
 obtain ⟨l⟩:=vals
 match l,h1 with
 | [u,v,s],_=>exact ⟨u,v,s,rfl,h2 0 _ _ rfl rfl,h2 1 _ _ rfl rfl,h2 2 _ _ rfl rfl⟩
theorem qIu (s:List UInt8):(⟨s.toArray⟩:ByteArray).size=s.length:=by simp [ByteArray.size]
theorem qMo (s p:List UInt8):Spec Tryz.prog 52 [.d (.str s),.d (.str p)] [] (fun r h'=>r=.d (.bool (Lib.hasPrefix s p))∧h'=[]) :=
 qFs (qIf Tryz.func52 rfl rfl) rfl fun G w vals h1 h2 ht hi=>by
  obtain ⟨u,v,rfl,hu,hv⟩:=args2 h1 h2
  rw [hu.str_inv,hv.str_inv]
  refine (Tryz.strings_HasPrefix ⟨s.toArray⟩ ⟨p.toArray⟩ w).mono ?_
  rintro e w' ⟨rfl,rfl⟩
  exact ⟨_,rfl,.d (.bool _),Below.refl _ _⟩
end Tdoc
namespace Tdoc
open Go Go.Proofs Go.RowKit Go.Sort
theorem qYv {G:Gh} {w:World} {l:List (List UInt8)} {v:Value} (hi:∀ a v,G.imm a=some v→w.cell? a=some v) (h:RepA G (.d (.sl 1 (qAg l))) v) :
  (∃ (bk o c:Nat),v=.slice (some ⟨bk,o,none⟩) l.length c∧l.length≤c∧∀ (j:Nat) (s:List UInt8),l[j]?=some s→w.cell? ⟨bk,o+j,none⟩=some (.string ⟨s.toArray⟩))∨(l=[]∧∃ a c,v=.slice a 0 c):=by
 have h':RepD G.imm (.sl 1 (qAg l)) v:=by cases h with | d r=>exact r
 obtain ⟨a,cap,hv,hn,hp⟩:=h'.slice_inv
 by_cases hl:l=[]
 ·subst hl;exact .inr ⟨rfl,a,cap,hv⟩
 cases a with
 | none =>
  obtain ⟨h1,h2⟩:=hn rfl
  exact absurd (by simpa [qAg] using h1) hl
 | some p =>
  obtain ⟨p1,p2,p3,vs,p4,p5⟩:=hp p rfl
  have hl0:0 < l.length:=by cases l with | nil=>exact absurd rfl hl | cons _ _=>simp
  have hlc:l.length≤cap:=by simpa [qAg] using p2
  have p1:=p1 (by omega)
  refine .inl ⟨p.block,p.off,cap,by rw [hv];obtain ⟨b,o,s⟩:=p;simp only at p1;subst p1;simp [qAg],hlc,fun j s hs=>?_⟩
  have he:(qAg l)[j]?=some [.str s]:=by simp [qAg,hs]
  have h1:=hi _ _ (p4 j _ 0 _ he rfl)
  have h2:=p5 j _ 0 _ he rfl
  rw [qCq p p1] at h1
  simp only [Nat.mul_one,Nat.add_zero] at h1 h2
  have h3:vs j=.string ⟨s.toArray⟩:=by generalize vs j=u at h2;cases h2;rfl
  rw [h3] at h1;exact h1
theorem qJn {P:Program} {f:FuncId} {args:List AV} {sz:Nat} {es:List (List Dat)} {cs:Array Value} {t:TypeId} {cap:Nat} (hf:∃ fn,P.funcs[f]?=some fn∧(fn.name == "runtime.NumGoroutine")=false∧fn.body.isNone=false)
  (he:∀ e,e∈es→e.length=sz) (hcap:es.length≤cap) (hc:∀ (m:Addr→Option Value) (i:Nat) (e:List Dat) (j:Nat) (d:Dat),es[i]?=some e→e[j]?=some d→∃ u,cs[i*sz+j]?=some u∧RepD m d u)
  (H:LibH P f args fun G w e w'=>e=.returned (.slice (some ⟨w.heap.size,0,none⟩) es.length cap)∧w'=w.alloc (.cells cs t)):Spec P f args [] (fun r' h'=>r'=.d (.sl sz es)∧h'=[]) :=
 ⟨hf,fun G w vals h1 h2 ht hw=>(H G w vals h1 h2 ht hw.imm).mono fun e w' ⟨he',hw'⟩=>by
  subst hw'
  have hn:=hw.newImm (es.length*sz) cs t (w.alloc (.cells cs t)) rfl rfl rfl rfl
  exact ⟨_,.d (.sl sz es),[],_,he',⟨rfl,rfl⟩,rfl,rfl,rfl,.d (newImm_rep he (Nat.le_refl _) _ hcap (fun i e j d h3 h4=>hc _ i e j d h3 h4)),hn⟩⟩
theorem qFe (n:Int) (h0 : -9223372036854775808≤n∧n≤9223372036854775807):Spec Tryz.prog 44 [.I n] [] (fun r h'=>r=.d (.str (Lib.itoa n))∧h'=[]) :=
 qFs (qIf Tryz.func44 rfl rfl) rfl fun G w vals h1 h2 ht hi=>by
  obtain ⟨v,rfl,hv⟩:=args1 h1 h2
  rw [hv.int_inv]
  obtain ⟨_,o,ho,t,f,rfl⟩:=ht.2 3 _ rfl
  have htab:Lib.TabIs Tryz.prog w "internal/strconv.uint64pow10" .u64 Lib.pow10Tab:=by
   unfold Lib.TabIs World.var?
   rw [show Tryz.prog.globalNamed "internal/strconv.uint64pow10" = some 3 by kernel_rfl]
   simp only [Option.bind_some,ho]
   simp [Lib.pow10Tab]
  refine (Tryz.strconv_Itoa n h0.1 h0.2 w htab).mono ?_
  rintro e w' ⟨rfl,k,os,rfl⟩
  exact ⟨_,rfl,.d (.str _),qNe w k os⟩
theorem qVp (c:UInt8):∀ l:List (List UInt8),Lib.join l [c]=joi c l
 | []=>rfl
 | [w]=>Lib.join_one w [c]
 | w::v::l=>by
  have ih:=qVp c (v::l)
  rw [Lib.join_cons] at ih
  rw [Lib.join_cons]
  show w++Lib.joinTail [c] (v::l)=w++c::joi c (v::l)
  rw [← ih]
  simp [Lib.joinTail]
theorem qRc (c:UInt8) (l:List (List UInt8)) (hl:l.length≤140737488355328) (hj:(joi c l).length≤140737488355328) :
  Spec Tryz.prog 29 [.d (.sl 1 (qAg l)),.d (.str [c])] [] (fun r h'=>r=.d (.str (joi c l))∧h'=[]) :=
 qFs (qIf Tryz.func29 rfl rfl) rfl fun G w vals h1 h2 ht hi=>by
  obtain ⟨u,v,rfl,hu,hv⟩:=args2 h1 h2
  rw [hv.str_inv]
  rw [← qVp] at hj ⊢
  rcases qYv hi hu with ⟨bk,o,cp,rfl,hc,hcell⟩ | ⟨rfl,a,cp,rfl⟩
  ·cases l with
   | nil =>
    refine (Tryz.strings_Join_none (some ⟨bk,o,none⟩) cp ⟨[c].toArray⟩ w).mono ?_
    rintro e w' ⟨rfl,rfl⟩
    exact ⟨_,rfl,.d (.str []),Below.refl _ _⟩
   | cons a l =>
    have hmap:((a::l).map fun s=>(⟨s.toArray⟩:ByteArray)).map (·.data.toList)=a::l:=by
     rw [List.map_map]
     exact (List.map_congr_left fun s _=>rfl).trans (List.map_id _)
    have h0:=hcell 0 a rfl
    have hbk:=qIl h0
    have hcon:=Tryz.strings_Join bk o cp ((a::l).map fun s=>(⟨s.toArray⟩:ByteArray)) ⟨[c].toArray⟩ w (fun j x hx=>by
     simp only [List.getElem?_map,Option.map_eq_some_iff] at hx
     obtain ⟨s,hs,rfl⟩:=hx
     exact hcell j s hs) hbk (by rw [List.length_map];exact hl) (by rw [List.length_map];exact hc) (by rw [hmap];exact hj)
    rw [hmap,List.length_map] at hcon
    refine hcon.mono ?_
    rintro e w' ⟨rfl,hb⟩
    exact ⟨_,rfl,.d (.str _),hb⟩
  ·refine (Tryz.strings_Join_none a cp ⟨[c].toArray⟩ w).mono ?_
   rintro e w' ⟨rfl,rfl⟩
   exact ⟨_,rfl,.d (.str []),Below.refl _ _⟩
def qBd (s:List UInt8):Int×Bool:=match Lib.atoiAll s with
 | .ok v=>(v,true)
 | .range=>(Lib.atoiSat s,false)
 | _=>(0,false)
theorem atoiR_num (s:List UInt8):vBe s=if (qBd s).2 then some (qBd s).1 else none:=by
 unfold vBe qBd
 cases Lib.atoiAll s <;> rfl
theorem vAs (s:List UInt8) (hs:s.length≤1000000):Spec Tryz.prog 93 [.d (.str s)] [] (fun r h'=>r=.tup [.d (.int .i64 (qBd s).1),.ifc (qBd s).2]∧h'=[]) :=
 qFs (qIf Tryz.func93 rfl rfl) rfl fun G w vals h1 h2 ht hi=>by
  obtain ⟨v,rfl,hv⟩:=args1 h1 h2
  rw [hv.str_inv]
  have hsz:(⟨s.toArray⟩:ByteArray).size=s.length:=by simp [ByteArray.size]
  have two:∀ (n:Int) (b:Bool) (u:Value),vIc b u=true→RepA G (.tup [.I n,.ifc b]) (.tuple #[.int .i64 n,u]):=fun n b u hu=>.tup _ rfl fun j x y hx hy=>by
   match j,hx,hy with
   | 0,hx,hy=>simp at hx hy;subst hx;subst hy;exact .d (.int _ _)
   | 1,hx,hy=>simp at hx hy;subst hx;subst hy;exact .ifc hu
   | j+2,hx,hy=>simp at hx
  unfold qBd
  cases h:Lib.atoiAll s with
  | ok n =>
   refine (Tryz.strconv_Atoi_ok ⟨s.toArray⟩ (by rw [hsz];omega) n h w).mono ?_
   rintro e w' ⟨rfl,hw⟩
   refine ⟨_,rfl,two _ _ _ rfl,?_⟩
   rcases hw with rfl | ⟨t,rfl⟩
   ·exact Below.refl _ _
   ·exact Lib.bytesWorld_below _ _ _
  | range =>
   obtain ⟨_,o,ho,ev,t,f,rfl,hev⟩:=ht.2 5 _ rfl
   refine (Tryz.strconv_Atoi_range ⟨s.toArray⟩ (by rw [hsz];omega) h ev w (by simp [World.cell?,ho]) hev).mono ?_
   rintro e w' ⟨N,rfl,-,-,hb⟩
   exact ⟨_,rfl,two _ _ _ rfl,hb⟩
  | _ =>
   obtain ⟨_,o,ho,ev,t,f,rfl,hev⟩:=ht.2 4 _ rfl
   refine (Tryz.strconv_Atoi_syntax ⟨s.toArray⟩ (by rw [hsz];omega) h ev w (by simp [World.cell?,ho]) hev).mono ?_
   rintro e w' ⟨N,rfl,-,-,hb⟩
   exact ⟨_,rfl,two _ _ _ rfl,hb⟩
theorem qNk {c:UInt8}:∀ s:List UInt8,Lib.indexByte s c = -1→spl c s=[s]
 | [],_=>rfl
 | b::s,h=>by
  rw [Lib.indexByte] at h
  have hge:=Lib.indexByte_ge s c
  split at h
  ·omega
  ·rename_i hb
   split at h
   ·rename_i h1
    rw [spl,if_neg (by simpa using hb),qNk s (by simpa using h1)]
   ·rename_i h1;simp at h1;omega
theorem qNj {c:UInt8}:∀ (s:List UInt8) (i:Nat),Lib.indexByte s c=i→spl c s=s.take i::spl c (s.drop (i+1))
 | [],i,h=>by rw [Lib.indexByte] at h;omega
 | b::s,i,h=>by
  rw [Lib.indexByte] at h
  split at h
  ·rename_i hb
   have:i=0:=by omega
   subst this
   rw [spl,if_pos (by simpa using hb)];rfl
  ·rename_i hb
   split at h
   ·omega
   ·have hge:=Lib.indexByte_ge s c
    rename_i h1
    simp at h1
    obtain ⟨j,rfl⟩:∃ j,i=j+1:=⟨i-1,by omega⟩
    exact qVc (by simpa using hb) (qNj s j (by omega))
theorem splitK_spl {c:UInt8}:∀ (k:Nat) (s:List UInt8),Lib.count s [c]=k→Lib.splitK [c] 0 k s=spl c s
 | 0,s,h=>by
  rcases Lib.index_spec s [c] with ⟨h1,-⟩ | ⟨i,h1,-⟩
  ·rw [qNk s (by rw [← Lib.index_one];exact h1)];rfl
  ·rw [Lib.count_hit (by simp) h1] at h;omega
 | k+1,s,h=>by
  rcases Lib.index_spec s [c] with ⟨h1,-⟩ | ⟨i,h1,-⟩
  ·rw [Lib.count_miss h1] at h;omega
  ·have h2:=Lib.count_hit (sub:=[c]) (by simp) h1
   rw [Lib.splitK,if_neg (by rw [h1];simp),h1,Int.toNat_natCast,splitK_spl k _ (by rw [h2] at h;exact Nat.add_left_cancel (n:=1) (h.trans (Nat.add_comm k 1))),qNj s i (by rw [← Lib.index_one];exact h1)]
   rfl
theorem splitK_splN {c:UInt8}:∀ (k:Nat) (s:List UInt8),Lib.splitK [c] 0 k s=qGx c k s
 | 0,s=>rfl
 | k+1,s=>by
  rcases Lib.index_spec s [c] with ⟨h1,-⟩ | ⟨i,h1,-⟩
  ·rw [Lib.splitK,if_pos (by rw [h1];rfl),qGx,qNk s (by rw [← Lib.index_one];exact h1)]
  ·rw [Lib.splitK,if_neg (by rw [h1];simp),h1,Int.toNat_natCast,qGx,qNj s i (by rw [← Lib.index_one];exact h1)]
   obtain ⟨w,l,hl⟩:∃ w l,spl c (s.drop (i+1))=w::l:=by
    cases h:spl c (s.drop (i+1)) with
    | nil=>exact absurd h (qEy _ _)
    | cons w l=>exact ⟨w,l,rfl⟩
   have hj:=qGe c (s.drop (i+1))
   rw [hl] at hj ⊢
   simp only
   rw [hj,splitK_splN k]
   rfl
theorem splN_le {c:UInt8}:∀ (j k:Nat) (s:List UInt8),s.length≤j→j≤k→qGx c k s=qGx c j s
 | 0,k,s,h,_=>by
  have:s=[]:=List.length_eq_zero_iff.1 (by omega)
  subst this
  cases k <;> rfl
 | j+1,0,s,_,h=>by omega
 | j+1,k+1,s,h,hk=>by
  rw [qGx,qGx]
  have hj:=qGe c s
  cases hs:spl c s with
  | nil=>rfl
  | cons w l =>
   cases l with
   | nil=>rfl
   | cons v l =>
    rw [hs,qDn c w (by simp)] at hj
    simp only
    rw [splN_le j k _ (by have:=congrArg List.length hj;simp only [List.length_append,List.length_cons] at this;omega) (by omega)]
theorem qVa (L:List ByteArray) (N:Nat):∀ (m:Addr→Option Value) (i:Nat) (e:List Dat) (j:Nat) (d:Dat),(qAg (L.map (·.data.toList)))[i]?=some e→e[j]?=some d→∃ u,(Lib.cellsOf L N)[i*1+j]?=some u∧RepD m d u:=fun m i e j d he hd=>by
 simp only [qAg,List.getElem?_map,Option.map_eq_some_iff] at he
 obtain ⟨s,⟨b,hb,rfl⟩,rfl⟩:=he
 cases j with
 | zero =>
  simp at hd;subst hd
  refine ⟨.string b,?_,.str _⟩
  have hi:=(List.getElem?_eq_some_iff.1 hb).1
  simp only [Lib.cellsOf,Nat.mul_one,Nat.add_zero,List.getElem?_toArray]
  rw [List.getElem?_append_left (by simpa using hi)]
  simp [hb]
 | succ j=>simp at hd
theorem qGt (c:UInt8) (s:List UInt8) (hs:s.length≤1000000):Spec Tryz.prog 20 [.d (.str s),.d (.str [c])] [] (fun r h'=>r=.d (.sl 1 (qAg (spl c s)))∧h'=[]):=by
 have hd:=Lib.splitB_data ⟨[c].toArray⟩ 0 (Lib.countB ⟨s.toArray⟩ ⟨[c].toArray⟩) ⟨s.toArray⟩
 have hk:Lib.splitK [c] 0 (Lib.countB ⟨s.toArray⟩ ⟨[c].toArray⟩) s=spl c s:=splitK_spl _ s rfl
 have hall:=Lib.splitB_all (sep:=⟨[c].toArray⟩) (by simp [ByteArray.size]) 0 (Lib.countB ⟨s.toArray⟩ ⟨[c].toArray⟩) ⟨s.toArray⟩ rfl
 have hd':(Lib.splitB ⟨[c].toArray⟩ 0 (Lib.countB ⟨s.toArray⟩ ⟨[c].toArray⟩) ⟨s.toArray⟩).map (·.data.toList)=spl c s:=hd.trans hk
 rw [← hd']
 refine qJn (cs:=Lib.cellsOf (Lib.splitB ⟨[c].toArray⟩ 0 (Lib.countB ⟨s.toArray⟩ ⟨[c].toArray⟩) ⟨s.toArray⟩) (Lib.countB ⟨s.toArray⟩ ⟨[c].toArray⟩+1)) (t:=9) (cap:=Lib.countB ⟨s.toArray⟩ ⟨[c].toArray⟩+1) (qIf Tryz.func20 rfl rfl)
  (fun e he=>by simp only [qAg,List.mem_map] at he;obtain ⟨s,_,rfl⟩:=he;rfl) (by simp only [qAg,List.length_map];omega) (qVa _ _) fun G w vals k1 k2 ht hi=>?_
 obtain ⟨u,v,rfl,hu,hv⟩:=args2 k1 k2
 rw [hu.str_inv,hv.str_inv]
 obtain ⟨_,o,ho,m,t,f,rfl⟩:=ht.2 0 _ rfl
 refine (Tryz.strings_Split ⟨s.toArray⟩ ⟨[c].toArray⟩ m w (by rw [qIu];omega) (by simp [World.cell?,ho]) (by simp [ByteArray.size])).mono ?_
 rintro e w' ⟨rfl,rfl⟩
 refine ⟨?_,?_⟩
 ·simp only [qAg,List.length_map]
  rw [hall]
 ·congr 2
  unfold Lib.cellsOf
  rw [hall,Nat.sub_self]
  simp
theorem qTk (c:UInt8) (s:List UInt8) (hs:s.length≤1000000):Spec Tryz.prog 32 [.d (.str s),.d (.str [c]),.I 3] [] (fun r h'=>r=.d (.sl 1 (qAg (qGx c 2 s)))∧h'=[]):=by
 have hd:=Lib.splitB_data ⟨[c].toArray⟩ 0 (min 3 (s.length+1)-1) ⟨s.toArray⟩
 have hlen:=Lib.splitB_length_le ⟨[c].toArray⟩ 0 (min 3 (s.length+1)-1) ⟨s.toArray⟩
 have hk:Lib.splitK [c] 0 (min 3 (s.length+1)-1) s=qGx c 2 s:=by
  rw [splitK_splN]
  by_cases h:2≤s.length
  ·rw [show min 3 (s.length+1)-1=2 by omega]
  ·rw [show min 3 (s.length+1)-1=s.length by omega]
   exact (splN_le s.length 2 s (Nat.le_refl _) (by omega)).symm
 have hd':(Lib.splitB ⟨[c].toArray⟩ 0 (min 3 (s.length+1)-1) ⟨s.toArray⟩).map (·.data.toList)=qGx c 2 s:=hd.trans hk
 rw [← hd']
 refine qJn (cs:=Lib.cellsOf (Lib.splitB ⟨[c].toArray⟩ 0 (min 3 (s.length+1)-1) ⟨s.toArray⟩) (min 3 (s.length+1))) (t:=9) (cap:=min 3 (s.length+1)) (qIf Tryz.func32 rfl rfl)
  (fun e he=>by simp only [qAg,List.mem_map] at he;obtain ⟨s,_,rfl⟩:=he;rfl) (by simp only [qAg,List.length_map];omega) (qVa _ _) fun G w vals k1 k2 ht hi=>?_
 obtain ⟨u,v,x,rfl,hu,hv,hx⟩:=args3 k1 k2
 rw [hu.str_inv,hv.str_inv,hx.int_inv]
 obtain ⟨_,o,ho,m,t,f,rfl⟩:=ht.2 0 _ rfl
 have hcon:=Tryz.strings_SplitN ⟨s.toArray⟩ ⟨[c].toArray⟩ 3 m w (by rw [qIu];omega) (by simp [World.cell?,ho]) (by simp [ByteArray.size]) (by omega) (by omega)
 rw [qIu] at hcon
 refine hcon.mono ?_
 rintro e w' ⟨rfl,rfl⟩
 refine ⟨?_,rfl⟩
 simp only [qAg,List.length_map]
theorem qJo (x y:UInt8) (hxy:x≠y) (s:List UInt8) (hs:s.length≤1000000):Spec Tryz.prog 46 [.d (.str s),.d (.str [x]),.d (.str [y])] [] (fun r h'=>r=.d (.str (s.map fun c=>if c=x then y else c))∧h'=[]) :=
 qFs (qIf Tryz.func46 rfl rfl) rfl fun G w vals h1 h2 ht hi=>by
  obtain ⟨u,v,z,rfl,hu,hv,hz⟩:=args3 h1 h2
  rw [hu.str_inv,hv.str_inv,hz.str_inv]
  obtain ⟨_,o,ho,m,t,f,rfl⟩:=ht.2 0 _ rfl
  have hc:=Lib.count_le s [x]
  refine (Tryz.strings_ReplaceAll ⟨s.toArray⟩ ⟨#[x]⟩ ⟨#[y]⟩ m w (by rw [qIu];omega) (by simp [World.cell?,ho]) (by simp [ByteArray.size]) (by rw [qIu];show s.length+Lib.count s [x]*1≤_;omega)).mono ?_
  rintro e w' ⟨rfl,hb⟩
  refine ⟨_,rfl,?_,hb⟩
  rw [← qSb x y hxy]
  exact .d (.str _)
theorem indexB_in (x:UInt8):∀ (s:List UInt8),decide (0≤Lib.indexByte s x)=s.any (· == x)
 | []=>by rfl
 | c::l=>by
  have ih:=indexB_in x l
  have hl:=Lib.indexByte_ge l x
  have hi:Lib.indexByte (c::l) x=if c == x then 0 else if Lib.indexByte l x == -1 then -1 else Lib.indexByte l x+1:=rfl
  rw [List.any_cons,← ih,hi]
  by_cases hc:(c == x)=true
  ·rw [if_pos hc,hc];simp
  ·rw [if_neg hc]
   simp only [Bool.not_eq_true] at hc
   rw [hc]
   by_cases hm:Lib.indexByte l x = -1
   ·rw [if_pos (by simpa using hm),hm];rfl
   ·rw [if_neg (by simpa using hm),Bool.false_or]
    rw [Bool.eq_iff_iff];simp only [decide_eq_true_eq];omega
theorem qOp (x:UInt8) (s:List UInt8):Spec Tryz.prog 55 [.d (.str s),.d (.str [x])] [] (fun r h'=>r=.d (.bool (s.any (· == x)))∧h'=[]) :=
 qFs (qIf Tryz.func55 rfl rfl) rfl fun G w vals h1 h2 ht hi=>by
  obtain ⟨u,v,rfl,hu,hv⟩:=args2 h1 h2
  rw [hu.str_inv,hv.str_inv]
  refine (Tryz.strings_Contains_one ⟨s.toArray⟩ x w).mono ?_
  rintro e w' ⟨rfl,rfl⟩
  rw [← indexB_in]
  exact ⟨_,rfl,.d (.bool _),Below.refl _ _⟩
theorem prefixB_one (x:UInt8) (s:List UInt8):Lib.hasPrefix s [x]=decide (s.head?=some x):=by
 unfold Lib.hasPrefix
 cases s with
 | nil=>rfl
 | cons c l =>
  simp only [List.isPrefixOf,Bool.and_true,List.head?_cons,Option.some.injEq]
  by_cases h:c=x
  ·subst h;simp
  ·rw [decide_eq_false h,beq_eq_false_iff_ne];exact fun e=>h e.symm
theorem qLq (s p:List UInt8) (hs:s.length≤1000000):Spec Tryz.prog 21 [.d (.str s),.d (.str p)] [] (fun r h'=>r=.d (.str (Lib.trimSuffix s p))∧h'=[]) :=
 qFs (qIf Tryz.func21 rfl rfl) rfl fun G w vals h1 h2 ht hi=>by
  obtain ⟨u,v,rfl,hu,hv⟩:=args2 h1 h2
  rw [hu.str_inv,hv.str_inv]
  refine (Tryz.strings_TrimSuffix ⟨s.toArray⟩ ⟨p.toArray⟩ w (by rw [qIu];omega)).mono ?_
  rintro e w' ⟨rfl,rfl⟩
  exact ⟨_,rfl,.d (.str _),Below.refl _ _⟩
end Tdoc
namespace Tdoc
open Go Go.Proofs
def vBf (s:List UInt8):Bool:=decide ((s.length:Int) > 40)||!betw s||s.any (· == 95)
theorem badW_iff (s:List UInt8):vBf s=false↔qHb s:=by
 unfold vBf qHb betw
 simp only [Bool.or_eq_false_iff,decide_eq_false_iff_not,Bool.not_eq_false',List.all_eq_true,decide_eq_true_eq,List.any_eq_false,beq_iff_eq]
 constructor
 ·rintro ⟨⟨h1,h2⟩,h3⟩
  exact ⟨by omega,fun c hc=>⟨(h2 c hc).1,(h2 c hc).2,h3 c hc⟩⟩
 ·rintro ⟨h1,h2⟩
  exact ⟨⟨by omega,fun c hc=>⟨(h2 c hc).1,(h2 c hc).2.1⟩⟩,fun c hc=>(h2 c hc).2.2⟩
theorem badW_spec (s:List UInt8) (hs:s.length≤9223372036854775807):Spec Tryz.prog 54 [.d (.str s)] [] (fun r h'=>r=.d (.bool (vBf s))∧h'=[]):=by
 have hb:=qJl s hs
 have hc:=qOp 95 s
 unfold vBf
 generalize betw s=b at hb ⊢
 generalize s.any (· == 95)=c at hc ⊢
 refine qAb hT Tryz.func54 rfl rfl rfl rfl ?_;intro E hE
 refine ww ?_
 refine wwgc hb ?_
 refine ww ?_
 refine wwgc hc ?_
 refine ww ?_
 exact wwr
def vDb (s:List UInt8):Bool:=(s == [])||decide ((s.length:Int) > 1000)||!betw s||decide (s.head?=some 32)
theorem badRs_iff (s:List UInt8):vDb s=false↔qSa s:=by
 unfold vDb qSa betw
 simp only [Bool.or_eq_false_iff,decide_eq_false_iff_not,Bool.not_eq_false',List.all_eq_true,decide_eq_true_eq,beq_eq_false_iff_ne,ne_eq]
 constructor
 ·rintro ⟨⟨⟨h1,h2⟩,h3⟩,h4⟩
  exact ⟨h1,by omega,h4,h3⟩
 ·rintro ⟨h1,h2,h3,h4⟩
  exact ⟨⟨⟨h1,by omega⟩,h4⟩,h3⟩
def qLb (x:Akt):Bool:=if x.kind=11 then !vDb x.text&&![x.state,x.number,x.sur,x.giv,x.nat,x.bir,x.sex].any vBf else ![x.state,x.number,x.sur,x.giv,x.nat,x.bir,x.sex,x.text].any vBf
theorem plainB_iff (x:Akt):qLb x=true↔qJi x:=by
 unfold qLb qJi
 by_cases hk:x.kind=11
 ·rw [if_pos hk,if_pos hk]
  simp only [Bool.and_eq_true,Bool.not_eq_true',badRs_iff,List.any_eq_false,List.mem_cons,List.not_mem_nil,or_false,forall_eq_or_imp,forall_eq,Bool.not_eq_true,badW_iff]
  exact ⟨fun ⟨h,h1,h2,h3,h4,h5,h6,h7⟩=>⟨h1,h2,h3,h4,h5,h6,h7,h⟩,fun ⟨h1,h2,h3,h4,h5,h6,h7,h⟩=>⟨h,h1,h2,h3,h4,h5,h6,h7⟩⟩
 ·rw [if_neg hk,if_neg hk]
  simp only [Bool.not_eq_true',List.any_eq_false,List.mem_cons,List.not_mem_nil,or_false,forall_eq_or_imp,forall_eq,Bool.not_eq_true,badW_iff]
theorem plainC_spec (x:Akt) (P:List (List Dat)) (hx:ActLen x P):Spec Tryz.prog 26 [.agg (qBn x P)] [] (fun r h'=>r=.d (.bool (qLb x))∧h'=[]):=by
 have ht:=hx.txts
 clear hx
 obtain ⟨k,a,b,n,st,tx,nu,su,gi,na,bi,se,ex,pr,ba,pt,td,fa,cu,fl⟩:=x
 simp only at ht
 have hbt:=qJl tx (by omega)
 have hpf:=qMo tx [32]
 rw [prefixB_one] at hpf
 have hF7:=qEq (l:=[st,nu,su,gi,na,bi,se]) (g:=54) (p:=vBf) (fun c hc=>badW_spec c (by
  simp only [List.mem_cons,List.not_mem_nil,or_false] at hc
  rcases hc with rfl | rfl | rfl | rfl | rfl | rfl | rfl <;> omega)) (by simp)
 have hF8:=qEq (l:=[st,nu,su,gi,na,bi,se,tx]) (g:=54) (p:=vBf) (fun c hc=>badW_spec c (by
  simp only [List.mem_cons,List.not_mem_nil,or_false] at hc
  rcases hc with rfl | rfl | rfl | rfl | rfl | rfl | rfl | rfl <;> omega)) (by simp)
 unfold qLb vDb qBn
 simp only
 generalize betw tx=bt at hbt ⊢
 generalize [st,nu,su,gi,na,bi,se].any vBf=r7 at hF7 ⊢
 generalize [st,nu,su,gi,na,bi,se,tx].any vBf=r8 at hF8 ⊢
 generalize decide (tx.head?=some 32)=hd at hpf ⊢
 refine qAb hT Tryz.func26 rfl rfl rfl rfl ?_;intro E hE
 refine ww ?_
 refine qAa rfl (fun c1=>?_) (fun c1=>?_)
 ·have c1':k=11:=by simpa using c1
  rw [if_pos c1']
  refine ww ?_
  refine wwgc hbt ?_
  refine ww ?_
  refine wwgc hpf ?_
  refine ww ?_
  refine qAa rfl (fun c2=>?_) (fun c2=>?_)
  ·refine ww ?_
   refine rq ⟨rfl,rfl⟩ rfl (AV.le.bool ?_)
   have c2':((tx == [])||decide ((tx.length:Int) > 1000)||!bt||hd)=true:=c2
   rw [c2'];rfl
  ·have c2':((tx == [])||decide ((tx.length:Int) > 1000)||!bt||hd)=false:=c2
   rw [c2']
   refine ww ?_
   refine wwc hF7 ?_
   refine ww ?_
   exact wwr
 ·have c1':¬ k=11:=by simpa using c1
  rw [if_neg c1']
  refine ww ?_
  refine qAd (qCp (es:=[[.str st],[.str nu],[.str su],[.str gi],[.str na],[.str bi],[.str se]]) (es2:=[[.str tx]]) hT rfl rfl rfl (.inl rfl) rfl (by show (7+1)*(16+1)≤140737488355328;omega)) rfl ?_
  refine ww ?_
  refine wwc hF8 ?_
  refine ww ?_
  exact wwr
def qBg (k:Int):List (Shp×Nat) :=
 if k=1 then [(.num,3)]
 else if k=2 then [(.txt,4),(.txt,5)]
 else if k=3 then [(.num,1)]
 else if k=4 then [(.num,1),(.txt,6),(.txt,7),(.txt,8),(.txt,9),(.txt,10),(.txt,11),(.num,12),(.flg,14),(.nums,13),(.nums,17)]
 else if k=7 then [(.num,1),(.num,2),(.num,3)]
 else if k=9 then [(.num,1),(.txt,5)]
 else if k=10 then [(.num,1),(.num,2),(.nums,18),(.flps,19)]
 else if k=11 then [(.txt,4),(.rst,5)]
 else [(.num,1),(.num,2)]
def tyS:Shp→Nat
 | .num=>120
 | .txt=>121
 | .rst=>125
 | .flg=>122
 | .nums=>123
 | .flps=>124
def qDi (l:List (Shp×Nat)):List AV:=l.map fun x=>.ifa (tyS x.1) (.ptr 0 x.2)
def qDv:Fld→AV
 | .num n=>.d (.int .i64 n)
 | .txt s=>.d (.str s)
 | .rst s=>.d (.str s)
 | .flg b=>.d (.bool b)
 | .nums l=>.d (.sl 1 (qAl l))
 | .flps l=>.d (.sl 3 (qAr l))
theorem qQc (C:List AV) (hC:qBl 2 C=true):Spec Tryz.prog 27 [.ptr 0 0] [.row (.I 1::C),.room] (fun r h'=>r=.row 1 0 1 1∧h'=[.row (.I 1::C),.row (qDi (qBg 1))]):=by
 have hL:qCn 2 [AObj.row (.I 1::C),.row (qDi (qBg 1))]=true:=by show ((true&&qBl 2 C)&&(qBl 2 (qDi (qBg 1))&&true))=true;rw [hC];rfl
 refine qAb hT Tryz.func27 rfl rfl rfl rfl ?_;intro E hE
 refine wwn ?_
 refine qAa rfl (fun q=>?_) (fun q=>absurd q (by decide))
 refine wwn ?_
 refine qAd (buildRowAt_ok (i0:=1) (cells:=qDi (qBg 1)) hT rfl rfl rfl) rfl ?_
 refine wwn ?_
 exact rq (h6:=hL) ⟨rfl,rfl⟩ rfl (.refl _)
theorem qQb (C:List AV) (hC:qBl 2 C=true):Spec Tryz.prog 27 [.ptr 0 0] [.row (.I 2::C),.room] (fun r h'=>r=.row 1 0 2 2∧h'=[.row (.I 2::C),.row (qDi (qBg 2))]):=by
 have hL:qCn 2 [AObj.row (.I 2::C),.row (qDi (qBg 2))]=true:=by show ((true&&qBl 2 C)&&(qBl 2 (qDi (qBg 2))&&true))=true;rw [hC];rfl
 refine qAb hT Tryz.func27 rfl rfl rfl rfl ?_;intro E hE
 refine wwn ?_
 refine qAa rfl (fun q=>absurd q (by decide)) (fun q=>?_)
 refine wwn ?_
 refine qAa rfl (fun q=>?_) (fun q=>absurd q (by decide))
 refine wwn ?_
 refine qBu (fun i=>bif Nat.beq i 8 then [1] else []) (fun i=>bif Nat.beq i 8 then [1] else []) mixed (by kernel_rfl) ?_
 refine wwg ?_
 refine qAm (os:=[.row (qDi (qBg 2))]) (v:=.row 1 0 2 2) (fun k hk hr=>buildRowAt_ok (i0:=1) (cells:=qDi (qBg 2)) hT rfl rfl ((hr 1 (List.mem_singleton.2 rfl)).trans rfl)) rfl ?_
 refine wwg ?_
 refine wwn ?_
 exact rq (h6:=hL) ⟨rfl,rfl⟩ rfl (.refl _)
theorem qQa (C:List AV) (hC:qBl 2 C=true):Spec Tryz.prog 27 [.ptr 0 0] [.row (.I 3::C),.room] (fun r h'=>r=.row 1 0 1 1∧h'=[.row (.I 3::C),.row (qDi (qBg 3))]):=by
 have hL:qCn 2 [AObj.row (.I 3::C),.row (qDi (qBg 3))]=true:=by show ((true&&qBl 2 C)&&(qBl 2 (qDi (qBg 3))&&true))=true;rw [hC];rfl
 refine qAb hT Tryz.func27 rfl rfl rfl rfl ?_;intro E hE
 refine wwn ?_
 refine qAa rfl (fun q=>absurd q (by decide)) (fun q=>?_)
 refine wwn ?_
 refine qAa rfl (fun q=>absurd q (by decide)) (fun q=>?_)
 refine wwn ?_
 refine qAa rfl (fun q=>?_) (fun q=>absurd q (by decide))
 refine wwn ?_
 refine qAd (buildRowAt_ok (i0:=1) (cells:=qDi (qBg 3)) hT rfl rfl rfl) rfl ?_
 refine wwn ?_
 exact rq (h6:=hL) ⟨rfl,rfl⟩ rfl (.refl _)
theorem qPz (C:List AV) (hC:qBl 2 C=true):Spec Tryz.prog 27 [.ptr 0 0] [.row (.I 4::C),.room] (fun r h'=>r=.row 1 0 11 11∧h'=[.row (.I 4::C),.row (qDi (qBg 4))]):=by
 have hL:qCn 2 [AObj.row (.I 4::C),.row (qDi (qBg 4))]=true:=by show ((true&&qBl 2 C)&&(qBl 2 (qDi (qBg 4))&&true))=true;rw [hC];rfl
 refine qAb hT Tryz.func27 rfl rfl rfl rfl ?_;intro E hE
 refine wwn ?_
 refine qAa rfl (fun q=>absurd q (by decide)) (fun q=>?_)
 refine wwn ?_
 refine qAa rfl (fun q=>absurd q (by decide)) (fun q=>?_)
 refine wwn ?_
 refine qAa rfl (fun q=>absurd q (by decide)) (fun q=>?_)
 refine wwn ?_
 refine qAa rfl (fun q=>?_) (fun q=>absurd q (by decide))
 refine wwn ?_
 refine qBu (fun i=>bif Nat.beq i 44 then [1] else []) (fun i=>bif Nat.beq i 44 then [1] else []) mixed (by kernel_rfl) ?_
 refine wwg ?_
 refine qAm (os:=[.row (qDi (qBg 4))]) (v:=.row 1 0 11 11) (fun k hk hr=>buildRowAt_ok (i0:=1) (cells:=qDi (qBg 4)) hT rfl rfl ((hr 1 (List.mem_singleton.2 rfl)).trans rfl)) rfl ?_
 refine wwg ?_
 refine wwn ?_
 exact rq (h6:=hL) ⟨rfl,rfl⟩ rfl (.refl _)
theorem qPw (C:List AV) (hC:qBl 2 C=true):Spec Tryz.prog 27 [.ptr 0 0] [.row (.I 7::C),.room] (fun r h'=>r=.row 1 0 3 3∧h'=[.row (.I 7::C),.row (qDi (qBg 7))]):=by
 have hL:qCn 2 [AObj.row (.I 7::C),.row (qDi (qBg 7))]=true:=by show ((true&&qBl 2 C)&&(qBl 2 (qDi (qBg 7))&&true))=true;rw [hC];rfl
 refine qAb hT Tryz.func27 rfl rfl rfl rfl ?_;intro E hE
 refine wwn ?_
 refine qAa rfl (fun q=>absurd q (by decide)) (fun q=>?_)
 refine wwn ?_
 refine qAa rfl (fun q=>absurd q (by decide)) (fun q=>?_)
 refine wwn ?_
 refine qAa rfl (fun q=>absurd q (by decide)) (fun q=>?_)
 refine wwn ?_
 refine qAa rfl (fun q=>absurd q (by decide)) (fun q=>?_)
 refine wwn ?_
 refine qAa rfl (fun q=>?_) (fun q=>absurd q (by decide))
 refine wwn ?_
 refine qBu (fun i=>bif Nat.beq i 12 then [1] else []) (fun i=>bif Nat.beq i 12 then [1] else []) mixed (by kernel_rfl) ?_
 refine wwg ?_
 refine qAm (os:=[.row (qDi (qBg 7))]) (v:=.row 1 0 3 3) (fun k hk hr=>buildRowAt_ok (i0:=1) (cells:=qDi (qBg 7)) hT rfl rfl ((hr 1 (List.mem_singleton.2 rfl)).trans rfl)) rfl ?_
 refine wwg ?_
 refine wwn ?_
 exact rq (h6:=hL) ⟨rfl,rfl⟩ rfl (.refl _)
theorem qPu (C:List AV) (hC:qBl 2 C=true):Spec Tryz.prog 27 [.ptr 0 0] [.row (.I 9::C),.room] (fun r h'=>r=.row 1 0 2 2∧h'=[.row (.I 9::C),.row (qDi (qBg 9))]):=by
 have hL:qCn 2 [AObj.row (.I 9::C),.row (qDi (qBg 9))]=true:=by show ((true&&qBl 2 C)&&(qBl 2 (qDi (qBg 9))&&true))=true;rw [hC];rfl
 refine qAb hT Tryz.func27 rfl rfl rfl rfl ?_;intro E hE
 refine wwn ?_
 refine qAa rfl (fun q=>absurd q (by decide)) (fun q=>?_)
 refine wwn ?_
 refine qAa rfl (fun q=>absurd q (by decide)) (fun q=>?_)
 refine wwn ?_
 refine qAa rfl (fun q=>absurd q (by decide)) (fun q=>?_)
 refine wwn ?_
 refine qAa rfl (fun q=>absurd q (by decide)) (fun q=>?_)
 refine wwn ?_
 refine qAa rfl (fun q=>absurd q (by decide)) (fun q=>?_)
 refine wwn ?_
 refine qAa rfl (fun q=>?_) (fun q=>absurd q (by decide))
 refine wwn ?_
 refine qBu (fun i=>bif Nat.beq i 8 then [1] else []) (fun i=>bif Nat.beq i 8 then [1] else []) mixed (by kernel_rfl) ?_
 refine wwg ?_
 refine qAm (os:=[.row (qDi (qBg 9))]) (v:=.row 1 0 2 2) (fun k hk hr=>buildRowAt_ok (i0:=1) (cells:=qDi (qBg 9)) hT rfl rfl ((hr 1 (List.mem_singleton.2 rfl)).trans rfl)) rfl ?_
 refine wwg ?_
 refine wwn ?_
 exact rq (h6:=hL) ⟨rfl,rfl⟩ rfl (.refl _)
theorem qNy (C:List AV) (hC:qBl 2 C=true):Spec Tryz.prog 27 [.ptr 0 0] [.row (.I 10::C),.room] (fun r h'=>r=.row 1 0 4 4∧h'=[.row (.I 10::C),.row (qDi (qBg 10))]):=by
 have hL:qCn 2 [AObj.row (.I 10::C),.row (qDi (qBg 10))]=true:=by show ((true&&qBl 2 C)&&(qBl 2 (qDi (qBg 10))&&true))=true;rw [hC];rfl
 refine qAb hT Tryz.func27 rfl rfl rfl rfl ?_;intro E hE
 refine wwn ?_
 refine qAa rfl (fun q=>absurd q (by decide)) (fun q=>?_)
 refine wwn ?_
 refine qAa rfl (fun q=>absurd q (by decide)) (fun q=>?_)
 refine wwn ?_
 refine qAa rfl (fun q=>absurd q (by decide)) (fun q=>?_)
 refine wwn ?_
 refine qAa rfl (fun q=>absurd q (by decide)) (fun q=>?_)
 refine wwn ?_
 refine qAa rfl (fun q=>absurd q (by decide)) (fun q=>?_)
 refine wwn ?_
 refine qAa rfl (fun q=>absurd q (by decide)) (fun q=>?_)
 refine wwn ?_
 refine qAa rfl (fun q=>?_) (fun q=>absurd q (by decide))
 refine wwn ?_
 refine qBu (fun i=>bif Nat.beq i 18 then [1] else []) (fun i=>bif Nat.beq i 18 then [1] else []) mixed (by kernel_rfl) ?_
 refine wwg ?_
 refine qAm (os:=[.row (qDi (qBg 10))]) (v:=.row 1 0 4 4) (fun k hk hr=>buildRowAt_ok (i0:=1) (cells:=qDi (qBg 10)) hT rfl rfl ((hr 1 (List.mem_singleton.2 rfl)).trans rfl)) rfl ?_
 refine wwg ?_
 refine wwn ?_
 exact rq (h6:=hL) ⟨rfl,rfl⟩ rfl (.refl _)
theorem qNx (C:List AV) (hC:qBl 2 C=true):Spec Tryz.prog 27 [.ptr 0 0] [.row (.I 11::C),.room] (fun r h'=>r=.row 1 0 2 2∧h'=[.row (.I 11::C),.row (qDi (qBg 11))]):=by
 have hL:qCn 2 [AObj.row (.I 11::C),.row (qDi (qBg 11))]=true:=by show ((true&&qBl 2 C)&&(qBl 2 (qDi (qBg 11))&&true))=true;rw [hC];rfl
 refine qAb hT Tryz.func27 rfl rfl rfl rfl ?_;intro E hE
 refine wwn ?_
 refine qAa rfl (fun q=>absurd q (by decide)) (fun q=>?_)
 refine wwn ?_
 refine qAa rfl (fun q=>absurd q (by decide)) (fun q=>?_)
 refine wwn ?_
 refine qAa rfl (fun q=>absurd q (by decide)) (fun q=>?_)
 refine wwn ?_
 refine qAa rfl (fun q=>absurd q (by decide)) (fun q=>?_)
 refine wwn ?_
 refine qAa rfl (fun q=>absurd q (by decide)) (fun q=>?_)
 refine wwn ?_
 refine qAa rfl (fun q=>absurd q (by decide)) (fun q=>?_)
 refine wwn ?_
 refine qAa rfl (fun q=>absurd q (by decide)) (fun q=>?_)
 refine wwn ?_
 refine qAa rfl (fun q=>?_) (fun q=>absurd q (by decide))
 refine wwn ?_
 refine qBu (fun i=>bif Nat.beq i 8 then [1] else []) (fun i=>bif Nat.beq i 8 then [1] else []) mixed (by kernel_rfl) ?_
 refine wwg ?_
 refine qAm (os:=[.row (qDi (qBg 11))]) (v:=.row 1 0 2 2) (fun k hk hr=>buildRowAt_ok (i0:=1) (cells:=qDi (qBg 11)) hT rfl rfl ((hr 1 (List.mem_singleton.2 rfl)).trans rfl)) rfl ?_
 refine wwg ?_
 refine wwn ?_
 exact rq (h6:=hL) ⟨rfl,rfl⟩ rfl (.refl _)
theorem qPy (C:List AV) (hC:qBl 2 C=true):Spec Tryz.prog 27 [.ptr 0 0] [.row (.I 5::C),.room] (fun r h'=>r=.row 1 0 2 2∧h'=[.row (.I 5::C),.row (qDi (qBg 5))]):=by
 have hL:qCn 2 [AObj.row (.I 5::C),.row (qDi (qBg 5))]=true:=by show ((true&&qBl 2 C)&&(qBl 2 (qDi (qBg 5))&&true))=true;rw [hC];rfl
 refine qAb hT Tryz.func27 rfl rfl rfl rfl ?_;intro E hE
 refine wwn ?_
 refine qAa rfl (fun q=>absurd q (by decide)) (fun q=>?_)
 refine wwn ?_
 refine qAa rfl (fun q=>absurd q (by decide)) (fun q=>?_)
 refine wwn ?_
 refine qAa rfl (fun q=>absurd q (by decide)) (fun q=>?_)
 refine wwn ?_
 refine qAa rfl (fun q=>absurd q (by decide)) (fun q=>?_)
 refine wwn ?_
 refine qAa rfl (fun q=>absurd q (by decide)) (fun q=>?_)
 refine wwn ?_
 refine qAa rfl (fun q=>absurd q (by decide)) (fun q=>?_)
 refine wwn ?_
 refine qAa rfl (fun q=>absurd q (by decide)) (fun q=>?_)
 refine wwn ?_
 refine qAa rfl (fun q=>absurd q (by decide)) (fun q=>?_)
 refine wwn ?_
 refine qBu (fun i=>bif Nat.beq i 8 then [1] else []) (fun i=>bif Nat.beq i 8 then [1] else []) mixed (by kernel_rfl) ?_
 refine wwg ?_
 refine qAm (os:=[.row (qDi (qBg 5))]) (v:=.row 1 0 2 2) (fun k hk hr=>buildRowAt_ok (i0:=1) (cells:=qDi (qBg 5)) hT rfl rfl ((hr 1 (List.mem_singleton.2 rfl)).trans rfl)) rfl ?_
 refine wwg ?_
 refine wwn ?_
 exact rq (h6:=hL) ⟨rfl,rfl⟩ rfl (.refl _)
theorem qPx (C:List AV) (hC:qBl 2 C=true):Spec Tryz.prog 27 [.ptr 0 0] [.row (.I 6::C),.room] (fun r h'=>r=.row 1 0 2 2∧h'=[.row (.I 6::C),.row (qDi (qBg 6))]):=by
 have hL:qCn 2 [AObj.row (.I 6::C),.row (qDi (qBg 6))]=true:=by show ((true&&qBl 2 C)&&(qBl 2 (qDi (qBg 6))&&true))=true;rw [hC];rfl
 refine qAb hT Tryz.func27 rfl rfl rfl rfl ?_;intro E hE
 refine wwn ?_
 refine qAa rfl (fun q=>absurd q (by decide)) (fun q=>?_)
 refine wwn ?_
 refine qAa rfl (fun q=>absurd q (by decide)) (fun q=>?_)
 refine wwn ?_
 refine qAa rfl (fun q=>absurd q (by decide)) (fun q=>?_)
 refine wwn ?_
 refine qAa rfl (fun q=>absurd q (by decide)) (fun q=>?_)
 refine wwn ?_
 refine qAa rfl (fun q=>absurd q (by decide)) (fun q=>?_)
 refine wwn ?_
 refine qAa rfl (fun q=>absurd q (by decide)) (fun q=>?_)
 refine wwn ?_
 refine qAa rfl (fun q=>absurd q (by decide)) (fun q=>?_)
 refine wwn ?_
 refine qAa rfl (fun q=>absurd q (by decide)) (fun q=>?_)
 refine wwn ?_
 refine qBu (fun i=>bif Nat.beq i 8 then [1] else []) (fun i=>bif Nat.beq i 8 then [1] else []) mixed (by kernel_rfl) ?_
 refine wwg ?_
 refine qAm (os:=[.row (qDi (qBg 6))]) (v:=.row 1 0 2 2) (fun k hk hr=>buildRowAt_ok (i0:=1) (cells:=qDi (qBg 6)) hT rfl rfl ((hr 1 (List.mem_singleton.2 rfl)).trans rfl)) rfl ?_
 refine wwg ?_
 refine wwn ?_
 exact rq (h6:=hL) ⟨rfl,rfl⟩ rfl (.refl _)
theorem qPv (C:List AV) (hC:qBl 2 C=true):Spec Tryz.prog 27 [.ptr 0 0] [.row (.I 8::C),.room] (fun r h'=>r=.row 1 0 2 2∧h'=[.row (.I 8::C),.row (qDi (qBg 8))]):=by
 have hL:qCn 2 [AObj.row (.I 8::C),.row (qDi (qBg 8))]=true:=by show ((true&&qBl 2 C)&&(qBl 2 (qDi (qBg 8))&&true))=true;rw [hC];rfl
 refine qAb hT Tryz.func27 rfl rfl rfl rfl ?_;intro E hE
 refine wwn ?_
 refine qAa rfl (fun q=>absurd q (by decide)) (fun q=>?_)
 refine wwn ?_
 refine qAa rfl (fun q=>absurd q (by decide)) (fun q=>?_)
 refine wwn ?_
 refine qAa rfl (fun q=>absurd q (by decide)) (fun q=>?_)
 refine wwn ?_
 refine qAa rfl (fun q=>absurd q (by decide)) (fun q=>?_)
 refine wwn ?_
 refine qAa rfl (fun q=>absurd q (by decide)) (fun q=>?_)
 refine wwn ?_
 refine qAa rfl (fun q=>absurd q (by decide)) (fun q=>?_)
 refine wwn ?_
 refine qAa rfl (fun q=>absurd q (by decide)) (fun q=>?_)
 refine wwn ?_
 refine qAa rfl (fun q=>absurd q (by decide)) (fun q=>?_)
 refine wwn ?_
 refine qBu (fun i=>bif Nat.beq i 8 then [1] else []) (fun i=>bif Nat.beq i 8 then [1] else []) mixed (by kernel_rfl) ?_
 refine wwg ?_
 refine qAm (os:=[.row (qDi (qBg 8))]) (v:=.row 1 0 2 2) (fun k hk hr=>buildRowAt_ok (i0:=1) (cells:=qDi (qBg 8)) hT rfl rfl ((hr 1 (List.mem_singleton.2 rfl)).trans rfl)) rfl ?_
 refine wwg ?_
 refine wwn ?_
 exact rq (h6:=hL) ⟨rfl,rfl⟩ rfl (.refl _)
theorem fieldsC_spec (k:Int) (C:List AV) (hC:qBl 2 C=true) (h:1≤k∧k≤11):Spec Tryz.prog 27 [.ptr 0 0] [.row (.I k::C),.room] (fun r h'=>r=.row 1 0 (qBg k).length (qBg k).length∧h'=[.row (.I k::C),.row (qDi (qBg k))]):=by
 rcases (by omega:k=1∨k=2∨k=3∨k=4∨k=5∨k=6∨k=7∨k=8∨k=9∨k=10∨k=11) with rfl | rfl | rfl | rfl | rfl | rfl | rfl | rfl | rfl | rfl | rfl
 ·exact qQc C hC
 ·exact qQb C hC
 ·exact qQa C hC
 ·exact qPz C hC
 ·exact qPy C hC
 ·exact qPx C hC
 ·exact qPw C hC
 ·exact qPv C hC
 ·exact qPu C hC
 ·exact qNy C hC
 ·exact qNx C hC
theorem wordC_spec (s:List UInt8) (hs:s.length≤1000000):Spec Tryz.prog 56 [.d (.str s)] [] (fun r h'=>r=.d (.str (qUy s))∧h'=[]):=by
 have hr:=qJo 32 95 (by decide) s hs
 unfold qUy
 refine qAb hT Tryz.func56 rfl rfl rfl rfl ?_;intro E hE
 refine ww ?_
 refine qAa rfl (fun c1=>?_) (fun c1=>?_)
 ·have c1':s=[]:=by simpa using c1
  rw [if_pos c1']
  refine ww ?_
  exact wwr
 ·have c1':¬ s=[]:=by simpa using c1
  rw [if_neg c1']
  refine ww ?_
  refine wwc hr ?_
  refine ww ?_
  exact wwr
theorem textC_spec (s:List UInt8) (hs:s.length≤1000000):Spec Tryz.prog 66 [.d (.str s)] [] (fun r h'=>r=.d (.str (qBa s))∧h'=[]):=by
 have hr:=qJo 95 32 (by decide) s hs
 unfold qBa
 refine qAb hT Tryz.func66 rfl rfl rfl rfl ?_;intro E hE
 refine ww ?_
 refine qAa rfl (fun c1=>?_) (fun c1=>?_)
 ·have c1':s=[95]:=by simpa using c1
  rw [if_pos c1']
  refine ww ?_
  exact wwr
 ·have c1':¬ s=[95]:=by simpa using c1
  rw [if_neg c1']
  refine ww ?_
  refine wwc hr ?_
  refine ww ?_
  exact wwr
theorem listC_spec (l:List (List UInt8)) (hl:l.length≤1000000) (hj:(joi 44 l).length≤140737488355328):Spec Tryz.prog 57 [.d (.sl 1 (qAg l))] [] (fun r h'=>r=.d (.str (qEm l))∧h'=[]):=by
 have hr:=qRc 44 l (by omega) hj
 have hll:=strsAV_length l
 unfold qEm
 refine qAb hT Tryz.func57 rfl rfl rfl rfl ?_;intro E hE
 refine ww ?_
 refine qAa rfl (fun c1=>?_) (fun c1=>?_)
 ·have c1':l=[]:=by rw [hll] at c1;simpa using c1
  rw [if_pos c1']
  refine ww ?_
  exact wwr
 ·have c1':¬ l=[]:=by rw [hll] at c1;simpa using c1
  rw [if_neg c1']
  refine ww ?_
  refine wwc hr ?_
  refine ww ?_
  exact wwr
theorem strsAV_snoc (l:List (List UInt8)) (s:List UInt8):qAg (l++[s])=qAg l++[[.str s]]:=by simp [qAg]
theorem qAy (n:Int) (h : -9223372036854775808≤n∧n≤9223372036854775807):(Lib.itoa n).length≤21:=Lib.itoa_length_le n h.1 h.2
theorem writeNum_spec (C:List AV) (off:Nat) (n:Int) (hn : -9223372036854775808≤n∧n≤9223372036854775807) (hC:qEv T 3 C off=some (.I n)) (hlow:qBl 1 C=true) :
  Spec Tryz.prog 28 [.ifa (tyS .num) (.ptr 0 off)] [.row C] (fun r h'=>r=.d (.str (wrF (.num n)))∧h'=[.row C]):=by
 have hi:=qFe n hn
 have hlowH:qCn 1 [AObj.row C]=true:=by show (qBl 1 C&&true)=true;rw [hlow];rfl
 unfold tyS wrF
 refine qAb hT Tryz.func28 rfl rfl rfl rfl ?_;intro E hE
 refine ww ?_
 refine qAa rfl (fun q=>?_) (fun q=>absurd q (by decide))
 refine ww ?_
 refine qAd (qAo (i:=0) (off:=off) hT rfl rfl rfl hC) rfl ?_
 refine wwc hi ?_
 refine ww ?_
 exact rq (h6:=hlowH) ⟨rfl,rfl⟩ rfl (.refl _)
theorem writeTxt_spec (C:List AV) (off:Nat) (s:List UInt8) (hs:s.length≤1000000) (hC:qEv T 9 C off=some (.d (.str s))) (hlow:qBl 1 C=true) :
  Spec Tryz.prog 28 [.ifa (tyS .txt) (.ptr 0 off)] [.row C] (fun r h'=>r=.d (.str (wrF (.txt s)))∧h'=[.row C]):=by
 have hi:=wordC_spec s hs
 have hlowH:qCn 1 [AObj.row C]=true:=by show (qBl 1 C&&true)=true;rw [hlow];rfl
 unfold tyS wrF
 refine qAb hT Tryz.func28 rfl rfl rfl rfl ?_;intro E hE
 refine ww ?_
 refine qAa rfl (fun q=>absurd q (by decide)) (fun q=>?_)
 refine ww ?_
 refine qAa rfl (fun q=>?_) (fun q=>absurd q (by decide))
 refine ww ?_
 refine qAd (qAo (i:=0) (off:=off) hT rfl rfl rfl hC) rfl ?_
 refine wwc hi ?_
 refine ww ?_
 exact rq (h6:=hlowH) ⟨rfl,rfl⟩ rfl (.refl _)
theorem writeRst_spec (C:List AV) (off:Nat) (s:List UInt8) (hC:qEv T 127 C off=some (.d (.str s))) (hlow:qBl 1 C=true) :
  Spec Tryz.prog 28 [.ifa (tyS .rst) (.ptr 0 off)] [.row C] (fun r h'=>r=.d (.str (wrF (.rst s)))∧h'=[.row C]):=by
 have hlowH:qCn 1 [AObj.row C]=true:=by show (qBl 1 C&&true)=true;rw [hlow];rfl
 unfold tyS wrF
 refine qAb hT Tryz.func28 rfl rfl rfl rfl ?_;intro E hE
 refine ww ?_
 refine qAa rfl (fun q=>absurd q (by decide)) (fun q=>?_)
 refine ww ?_
 refine qAa rfl (fun q=>absurd q (by decide)) (fun q=>?_)
 refine ww ?_
 refine qAa rfl (fun q=>?_) (fun q=>absurd q (by decide))
 refine ww ?_
 refine qAd (qAo (i:=0) (off:=off) hT rfl rfl rfl hC) rfl ?_
 refine ww ?_
 exact rq (h6:=hlowH) ⟨rfl,rfl⟩ rfl (.refl _)
theorem writeFlg_spec (C:List AV) (off:Nat) (b:Bool) (hC:qEv T 4 C off=some (.d (.bool b))) (hlow:qBl 1 C=true) :
  Spec Tryz.prog 28 [.ifa (tyS .flg) (.ptr 0 off)] [.row C] (fun r h'=>r=.d (.str (wrF (.flg b)))∧h'=[.row C]):=by
 have hlowH:qCn 1 [AObj.row C]=true:=by show (qBl 1 C&&true)=true;rw [hlow];rfl
 unfold tyS wrF
 refine qAb hT Tryz.func28 rfl rfl rfl rfl ?_;intro E hE
 refine ww ?_
 refine qAa rfl (fun q=>absurd q (by decide)) (fun q=>?_)
 refine ww ?_
 refine qAa rfl (fun q=>absurd q (by decide)) (fun q=>?_)
 refine ww ?_
 refine qAa rfl (fun q=>absurd q (by decide)) (fun q=>?_)
 refine ww ?_
 refine qAa rfl (fun q=>?_) (fun q=>absurd q (by decide))
 refine ww ?_
 refine qAd (qAo (i:=0) (off:=off) hT rfl rfl rfl hC) rfl ?_
 refine ww ?_
 refine qAa rfl (fun c1=>?_) (fun c1=>?_)
 ·have c1':b=true:=c1
  subst c1'
  refine ww ?_
  exact rq (h6:=hlowH) ⟨rfl,rfl⟩ rfl (.refl _)
 ·have c1':b=false:=c1
  subst c1'
  refine ww ?_
  exact rq (h6:=hlowH) ⟨rfl,rfl⟩ rfl (.refl _)
theorem qEw (c:UInt8) (m:Nat):∀ l:List (List UInt8),(∀ w,w∈l→w.length≤m)→(joi c l).length≤l.length*(m+1)
 | [],_=>by simp [joi]
 | [w],h=>by have:=h w List.mem_cons_self;simp [joi];omega
 | w::v::l,h=>by
  have ih:=qEw c m (v::l) (fun u hu=>h u (List.mem_cons_of_mem _ hu))
  have h1:=h w List.mem_cons_self
  rw [qDn c w (by simp)]
  simp only [List.length_append,List.length_cons] at ih ⊢
  rw [Nat.succ_mul]
  omega
theorem writeNums_spec (C:List AV) (off:Nat) (l:List Int) (hl:l.length≤4000) (hn:∀ n,n∈l→-9223372036854775808≤n∧n≤9223372036854775807) (hC:qEv T 23 C off=some (.d (.sl 1 (qAl l)))) (hlow:qBl 1 C=true) :
  Spec Tryz.prog 28 [.ifa (tyS .nums) (.ptr 0 off)] [.row C] (fun r h'=>r=.d (.str (wrF (.nums l)))∧h'=[.row C]):=by
 have hlowH:qCn 1 [AObj.row C]=true:=by show (qBl 1 C&&true)=true;rw [hlow];rfl
 have hls:=listC_spec (l.map Lib.itoa) (by rw [List.length_map];omega) (by
  have:=qEw 44 21 (l.map Lib.itoa) (fun w hw=>by
   obtain ⟨n,h1,rfl⟩:=List.mem_map.1 hw
   exact qAy n (hn n h1))
  rw [List.length_map] at this
  omega)
 have hel:=encI_length l
 unfold tyS wrF
 refine qAb hT Tryz.func28 rfl rfl rfl rfl ?_;intro E hE
 refine ww ?_
 refine qAa rfl (fun q=>absurd q (by decide)) (fun q=>?_)
 refine ww ?_
 refine qAa rfl (fun q=>absurd q (by decide)) (fun q=>?_)
 refine ww ?_
 refine qAa rfl (fun q=>absurd q (by decide)) (fun q=>?_)
 refine ww ?_
 refine qAa rfl (fun q=>absurd q (by decide)) (fun q=>?_)
 refine ww ?_
 refine qAa rfl (fun q=>?_) (fun q=>absurd q (by decide))
 refine ww ?_
 refine qAd (qAo (i:=0) (off:=off) hT rfl rfl rfl hC) rfl ?_
 refine ww ?_
 refine qAq (qBc 3 1 1 (es:=[]) (.inr ⟨rfl,rfl⟩) rfl ?_)
 refine qAn (ι:=Nat) (fun i=>[(3,.sl 1 (qAg ((l.take i).map Lib.itoa)) (.right 1)),(46,.d (.sl 1 (qAl l))),(47,.I (l.length:Int)),(48,.I (i:Int))]) (fun i=>[.row C,.right 1 (qAg ((l.take i).map Lib.itoa)).length]) (fun i=>i≤l.length) (fun i=>l.length-i) 0 (Nat.zero_le _)
  ⟨.refl _,.refl _,.int (by rw [hel]),.refl _,trivial⟩ (HLe.refl _) ?_
 intro i hi
 refine ww ?_
 refine qAa rfl (fun c1=>?_) (fun c1=>?_)
 ·have hi':i < l.length:=by simp at c1;omega
  have hat:=encI_at hi'
  have htk:l.take (i+1)=l.take i++[l[i]]:=List.take_succ_eq_append_getElem hi'
  have hit:=qFe l[i] (hn _ (List.getElem_mem hi'))
  have hsn:qAg ((l.take (i+1)).map Lib.itoa)=qAg ((l.take i).map Lib.itoa)++[[.str (Lib.itoa l[i])]]:=by rw [htk,List.map_append];exact strsAV_snoc _ _
  have hln:(qAg ((l.take i).map Lib.itoa)).length≤4000:=by rw [strsAV_length,List.length_map,List.length_take];omega
  generalize l[i]=n at hat hit hsn
  generalize qAg ((l.take i).map Lib.itoa)=S at hsn hln ⊢
  refine ww ?_
  refine wwi hat ?_
  refine ww ?_
  refine wwc hit ?_
  refine ww ?_
  refine qAd (qAs (i:=1) hT rfl rfl rfl rfl rfl rfl (by show (S.length+1)*(16+1)≤_;omega)) rfl ?_
  refine ww ?_
  exact ⟨i+1,hi',by omega,⟨AV.le.eq (by rw [hsn];rfl),.refl _,.refl _,.int (by rw [qAh (by omega)];omega),trivial⟩,⟨.refl _,by rw [hsn];exact ObLe.refl _,trivial⟩⟩
 have hi':i=l.length:=by simp at c1;omega
 subst hi'
 rw [List.take_length]
 refine qBr ?_
 refine qAi (l:=[(3,.d (.sl 1 (qAg (l.map Lib.itoa))))]) ⟨.dat,trivial⟩ (HLe.refl _) ?_
 refine ww ?_
 refine wwc hls ?_
 refine ww ?_
 exact rq (h6:=hlowH) ⟨rfl,rfl⟩ rfl (.refl _)
theorem writeFlps_spec (C:List AV) (off:Nat) (l:List Flp) (hl:l.length≤4000) (hn:∀ f,f∈l→(-9223372036854775808≤f.ap∧f.ap≤9223372036854775807)∧(-9223372036854775808≤f.byt∧f.byt≤9223372036854775807)∧(-9223372036854775808≤f.bit∧f.bit≤9223372036854775807)) (hC:qEv T 29 C off=some (.d (.sl 3 (qAr l)))) (hlow:qBl 1 C=true) :
  Spec Tryz.prog 28 [.ifa (tyS .flps) (.ptr 0 off)] [.row C] (fun r h'=>r=.d (.str (wrF (.flps l)))∧h'=[.row C]):=by
 have hlowH:qCn 1 [AObj.row C]=true:=by show (qBl 1 C&&true)=true;rw [hlow];rfl
 have hls:=listC_spec (l.map qBz) (by rw [List.length_map];omega) (by
  have:=qEw 44 65 (l.map qBz) (fun w hw=>by
   obtain ⟨f,h1,rfl⟩:=List.mem_map.1 hw
   obtain ⟨h2,h3,h4⟩:=hn f h1
   have a1:=qAy f.ap h2
   have a2:=qAy f.byt h3
   have a3:=qAy f.bit h4
   unfold qBz
   simp only [List.length_append,List.length_cons]
   omega)
  rw [List.length_map] at this
  omega)
 have hel:=encFp_length l
 unfold tyS wrF
 refine qAb hT Tryz.func28 rfl rfl rfl rfl ?_;intro E hE
 refine ww ?_
 refine qAa rfl (fun q=>absurd q (by decide)) (fun q=>?_)
 refine ww ?_
 refine qAa rfl (fun q=>absurd q (by decide)) (fun q=>?_)
 refine ww ?_
 refine qAa rfl (fun q=>absurd q (by decide)) (fun q=>?_)
 refine ww ?_
 refine qAa rfl (fun q=>absurd q (by decide)) (fun q=>?_)
 refine ww ?_
 refine qAa rfl (fun q=>absurd q (by decide)) (fun q=>?_)
 refine ww ?_
 refine qAa rfl (fun q=>?_) (fun q=>absurd q (by decide))
 refine ww ?_
 refine qAd (qAo (i:=0) (off:=off) hT rfl rfl rfl hC) rfl ?_
 refine ww ?_
 refine qAq (qBc 3 1 1 (es:=[]) (.inr ⟨rfl,rfl⟩) rfl ?_)
 refine qEs (ι:=Nat) (fun i=>[(3,.sl 1 (qAg ((l.take i).map qBz)) (.right 1)),(63,.d (.sl 3 (qAr l))),(64,.I (l.length:Int)),(65,.I (i:Int))]) (fun i=>[.row C,.right 1 (qAg ((l.take i).map qBz)).length]) (fun i=>i≤l.length) (fun i=>l.length-i) 0 (Nat.zero_le _)
  ⟨.refl _,.refl _,.int (by rw [hel]),.refl _,trivial⟩ (HLe.refl _) ?_
 intro i hi
 refine ww ?_
 refine qAa rfl (fun c1=>?_) (fun c1=>?_)
 ·have hi':i < l.length:=by simp at c1;omega
  have hat:=encFp_at hi'
  have htk:l.take (i+1)=l.take i++[l[i]]:=List.take_succ_eq_append_getElem hi'
  obtain ⟨h2,h3,h4⟩:=hn _ (List.getElem_mem hi')
  have hi1:=qFe _ h2
  have hi2:=qFe _ h3
  have hi3:=qFe _ h4
  have hsn:qAg ((l.take (i+1)).map qBz)=qAg ((l.take i).map qBz)++[[.str (qBz l[i])]]:=by rw [htk,List.map_append];exact strsAV_snoc _ _
  have hln:(qAg ((l.take i).map qBz)).length≤4000:=by rw [strsAV_length,List.length_map,List.length_take];omega
  have hfb:qBz l[i]=((((Lib.itoa l[i].ap++[58])++Lib.itoa l[i].byt)++[58])++Lib.itoa l[i].bit):=by unfold qBz;simp
  rw [hfb] at hsn
  have b1:=qAy _ h2
  have b2:=qAy _ h3
  have b3:=qAy _ h4
  clear hfb htk h2 h3 h4
  generalize l[i]=n at hat hi1 hi2 hi3 hsn b1 b2 b3
  obtain ⟨n1,n2,n3⟩:=n
  simp only at hat hi1 hi2 hi3 hsn b1 b2 b3
  generalize Lib.itoa n1=s1 at hi1 hsn b1
  generalize Lib.itoa n2=s2 at hi2 hsn b2
  generalize Lib.itoa n3=s3 at hi3 hsn b3
  have hlr:qCn 2 [AObj.row C,.right 1 (qAg ((l.take i).map qBz)).length]=true:=by show (qBl 2 C&&true)=true;rw [Bool.and_true];exact lowL_mono (by omega) C hlow
  have hlr':∀ m,qCn 2 [AObj.row C,.right 1 m]=true:=fun m=>hlr
  generalize qAg ((l.take i).map qBz)=S at hsn hln hlr ⊢
  refine ww ?_
  refine wwi hat ?_
  refine wwn ?_
  refine qBu (fun i=>bif Nat.beq i 2||Nat.beq i 6||Nat.beq i 11 then [2] else bif Nat.beq i 15 then [1] else []) (fun i=>bif Nat.beq i 15 then [1] else []) mixed (by kernel_rfl) ?_
  refine wwg ?_
  refine wwdc hi1 ?_
  refine wwg ?_
  refine wwdc hi2 ?_
  refine wwg ?_
  refine wwdc hi3 ?_
  refine wwg ?_
  refine qAm (os:=[]) (v:=.sl 1 [[Dat.str ((((s1++[58])++s2)++[58])++s3)]] .full) (fun k hk hr=>buildSl_ok hT rfl rfl) rfl ?_
  refine wwg ?_
  refine qAm (os:=[.right 1 (S++[[Dat.str ((((s1++[58])++s2)++[58])++s3)]]).length]) (v:=.sl 1 (S++[[Dat.str ((((s1++[58])++s2)++[58])++s3)]]) (.right 1)) (fun k hk hr=>qAs (i:=1) (es:=S) (es2:=[[Dat.str ((((s1++[58])++s2)++[58])++s3)]]) (by_:=16) hT rfl rfl rfl rfl ((hr 1 (List.mem_singleton.2 rfl)).trans rfl) rfl (by show (S.length+1)*(16+1)≤140737488355328;omega)) rfl ?_
  refine wwg ?_
  refine ww ?_
  exact ⟨i+1,[_],hi',by omega,⟨AV.le.eq (by rw [hsn];rfl),.refl _,.refl _,.int (by rw [qAh (by omega)];omega),trivial⟩,⟨.refl _,by rw [hsn];exact ObLe.refl _,.refl _,trivial⟩,Env.below_mono hE (by simp),rfl,hlr' _⟩
 have hi':i=l.length:=by simp at c1;omega
 subst hi'
 rw [List.take_length]
 refine qBr ?_
 refine qAi (l:=[(3,.d (.sl 1 (qAg (l.map qBz))))]) ⟨.dat,trivial⟩ (HLe.refl _) ?_
 refine ww ?_
 refine wwc hls ?_
 refine ww ?_
 exact rq (h6:=hlowH) ⟨rfl,rfl⟩ rfl (.refl _)
def scO (ws:List (List UInt8)) (b:Bool):List AV:=[.d (.sl 1 (qAg ws)),.d (.bool b)]
def hdW (ws:List (List UInt8)):List UInt8:=ws.headD []
theorem nextC_spec (ws:List (List UInt8)) (b:Bool):Spec Tryz.prog 65 [.ptr 0 0] [.row (scO ws b)] (fun r h'=>r=.d (.str (hdW ws))∧h'=[.row (scO ws.tail (b||ws.isEmpty))]):=by
 unfold scO
 cases ws with
 | nil =>
  rw [show (b||([]:List (List UInt8)).isEmpty)=true by simp]
  refine qAb hT Tryz.func65 rfl rfl rfl rfl ?_;intro E hE
  refine ww ?_
  refine qAa rfl (fun q=>?_) (fun q=>absurd q (by decide))
  refine ww ?_
  exact rq ⟨rfl,rfl⟩ rfl (.refl _)
 | cons w r =>
  have hel:(qAg (w::r)).length=r.length+1:=by simp [qAg]
  rw [show (b||(w::r).isEmpty)=b by simp]
  have hat:(qAg (w::r))[((0:Int)).toNat]?=some [.str w]:=rfl
  refine qAb hT Tryz.func65 rfl rfl rfl rfl ?_;intro E hE
  refine ww ?_
  refine qAa rfl (fun q=>absurd q (by simp [qAg];omega)) (fun q=>?_)
  refine ww ?_
  refine wwi hat ?_
  refine ww ?_
  exact rq ⟨rfl,rfl⟩ rfl (.refl _)
theorem parseC_spec (ws:List (List UInt8)) (b:Bool) (w:List UInt8) (hw:w.length≤1000000):Spec Tryz.prog 64 [.ptr 0 0,.d (.str w)] [.row (scO ws b)] (fun r h'=>r=.d (.int .i64 (qBd w).1)∧h'=[.row (scO ws (b||!(qBd w).2))]):=by
 have ha:=vAs w hw
 generalize qBd w=p at ha ⊢
 obtain ⟨n,e⟩:=p
 simp only at ha ⊢
 unfold scO
 have e1:(b||!true)=b:=by simp
 have e2:(b||!false)=true:=by simp
 refine qAb hT Tryz.func64 rfl rfl rfl rfl ?_;intro E hE
 refine ww ?_
 refine wwc ha ?_
 refine ww ?_
 refine qAd (qAe (ifcNe_ok (fun _=>rfl) rfl Tryz.underlying133 rfl)) rfl ?_
 refine ww ?_
 cases e with
 | true =>
  refine qAa rfl (fun q=>absurd q (by decide)) (fun q=>?_)
  refine ww ?_
  exact rq (h':=[.row [.d (.sl 1 (qAg ws)),.d (.bool b)]]) ⟨rfl,by rw [e1]⟩ rfl (.refl _)
 | false =>
  refine qAa rfl (fun q=>?_) (fun q=>absurd q (by decide))
  refine ww ?_
  exact rq (h':=[.row [.d (.sl 1 (qAg ws)),.d (.bool true)]]) ⟨rfl,by rw [e2]⟩ rfl (.refl _)
theorem partsC_spec (ws:List (List UInt8)) (b:Bool) (hw:(hdW ws).length≤1000000):Spec Tryz.prog 67 [.ptr 0 0] [.row (scO ws b)] (fun r h'=>r=.d (.sl 1 (qAg (qBk (hdW ws))))∧h'=[.row (scO ws.tail (b||ws.isEmpty))]):=by
 have hn:=nextC_spec ws b
 have hs:=qGt 44 (hdW ws) hw
 unfold qBk
 generalize hdW ws=w at hn hs ⊢
 generalize (b||ws.isEmpty)=b' at hn ⊢
 generalize ws.tail=wt at hn ⊢
 unfold scO at hn ⊢
 refine qAb hT Tryz.func67 rfl rfl rfl rfl ?_;intro E hE
 refine ww ?_
 refine qAd (qAk rfl rfl (hn) [0] (by decide) rfl rfl rfl rfl rfl rfl rfl) rfl ?_
 refine ww ?_
 refine qAa rfl (fun c1=>?_) (fun c1=>?_)
 ·have c1':w=[45]:=by simpa using c1
  rw [if_pos c1']
  refine ww ?_
  exact rq ⟨rfl,rfl⟩ rfl AV.le.nils
 ·have c1':¬ w=[45]:=by simpa using c1
  rw [if_neg c1']
  refine ww ?_
  refine wwc hs ?_
  refine ww ?_
  exact rq ⟨rfl,rfl⟩ rfl (.refl _)
def vCq:List (List UInt8)→Flp×Bool
 | [x,y,z]=>(⟨(qBd x).1,(qBd y).1,(qBd z).1⟩,(qBd x).2&&(qBd y).2&&(qBd z).2)
 | _=>(⟨0,0,0⟩,false)
theorem flipL_no:∀ {l:List (List UInt8)},l.length≠3→vCq l=(⟨0,0,0⟩,false)
 | [],_=>rfl
 | [_],_=>rfl
 | [_,_],_=>rfl
 | [_,_,_],h=>absurd rfl h
 | _::_::_::_::_,_=>rfl
def qCh (w:List UInt8):Flp×Bool:=vCq (spl 58 w)
theorem flipW_S (w:List UInt8):qXe w=if (qCh w).2 then some (qCh w).1 else none:=by
 unfold qXe qCh
 match spl 58 w with
 | []=>rfl
 | [_]=>rfl
 | [_,_]=>rfl
 | [x,y,z] =>
  simp only [atoiR_num,vCq]
  by_cases h1:(qBd x).2=true
  ·by_cases h2:(qBd y).2=true
   ·by_cases h3:(qBd z).2=true
    ·simp [h1,h2,h3]
    ·simp [h1,h2,h3]
   ·simp [h1,h2]
  ·simp [h1]
 | _::_::_::_::_=>rfl
theorem qBs {c:UInt8}:∀ (s:List UInt8),∀ w,w∈spl c s→w.length≤s.length
 | [],w,h=>by
  rw [spl,List.mem_singleton] at h
  subst h;exact Nat.le_refl _
 | x::r,w,h=>by
  have ih:=qBs (c:=c) r
  rw [spl] at h
  split at h
  ·rcases List.mem_cons.1 h with rfl | h
   ·simp
   ·have:=ih w h;simp;omega
  ·split at h
   ·rw [List.mem_singleton] at h;subst h;simp
   ·rename_i v l hv
    rcases List.mem_cons.1 h with rfl | h
    ·have:=ih v (by rw [hv];exact List.mem_cons_self);simp;omega
    ·have:=ih w (by rw [hv];exact List.mem_cons_of_mem _ h);simp;omega
def vIg (f:Flp):AV:=.agg [.d (.int .i64 f.ap),.d (.int .i64 f.byt),.d (.int .i64 f.bit)]
theorem flipC_spec (ws:List (List UInt8)) (b:Bool) (w:List UInt8) (hw:w.length≤1000000):Spec Tryz.prog 68 [.ptr 0 0,.d (.str w)] [.row (scO ws b)] (fun r h'=>r=vIg (qCh w).1∧h'=[.row (scO ws (b||!(qCh w).2))]):=by
 have hs:=qGt 58 w hw
 have hpl:=qBs (c:=58) w
 unfold qCh
 generalize spl 58 w=l at hs hpl ⊢
 have hll:=strsAV_length l
 by_cases h3:l.length=3
 ·match l,h3 with
  | [x,y,z],_ =>
   have h1:=parseC_spec ws b x (by have:=hpl x (by simp);omega)
   have h2:=parseC_spec ws (b||!(qBd x).2) y (by have:=hpl y (by simp);omega)
   have h3:=parseC_spec ws (b||!(qBd x).2||!(qBd y).2) z (by have:=hpl z (by simp);omega)
   have hb:(b||!(qBd x).2||!(qBd y).2||!(qBd z).2)=(b||!((qBd x).2&&(qBd y).2&&(qBd z).2)):=by cases b <;> cases (qBd x).2 <;> cases (qBd y).2 <;> cases (qBd z).2 <;> rfl
   simp only [vCq]
   rw [← hb]
   clear hb
   generalize (b||!(qBd x).2)=b1 at h1 h2 h3 ⊢
   generalize (b1||!(qBd y).2)=b2 at h2 h3 ⊢
   generalize (b2||!(qBd z).2)=b3 at h3 ⊢
   generalize (qBd x).1=n1 at h1 ⊢
   generalize (qBd y).1=n2 at h2 ⊢
   generalize (qBd z).1=n3 at h3 ⊢
   unfold scO vIg at *
   refine qAb hT Tryz.func68 rfl rfl rfl rfl ?_;intro E hE
   refine ww ?_
   refine wwc hs ?_
   refine ww ?_
   refine qAa rfl (fun q=>absurd q (by simp [qAg])) (fun q=>?_)
   have hx:(qAg [x,y,z])[((0:Int)).toNat]?=some [.str x]:=rfl
   have hy:(qAg [x,y,z])[((1:Int)).toNat]?=some [.str y]:=rfl
   have hz:(qAg [x,y,z])[((2:Int)).toNat]?=some [.str z]:=rfl
   have hl3:(qAg [x,y,z]).length=3:=rfl
   refine wwn ?_
   refine qAv (fun i=>bif Nat.beq i 4||Nat.beq i 9||Nat.beq i 14 then [0] else bif Nat.beq i 16 then [1] else []) (fun i=>bif Nat.beq i 4||Nat.beq i 9||Nat.beq i 14 then [0] else bif Nat.beq i 16 then [1] else []) mixed (by kernel_rfl) ?_
   refine wwg ?_
   refine qAm (os:=[]) (fun k hk hr=>qAe (indexAddr_ok hT rfl rfl rfl rfl (by omega) hx)) rfl ?_
   refine wwg ?_
   refine qAm (os:=[.row [.d (.sl 1 (qAg ws)),.d (.bool b1)]]) (v:=.I n1) (fun k hk hr=>qAk rfl rfl h1 [0] (by decide) (congrArg (fun z=>[z]) ((hr 0 (List.mem_singleton.2 rfl)).trans rfl)) rfl rfl rfl rfl rfl rfl) rfl ?_
   refine wwg ?_
   refine qAm (os:=[]) (fun k hk hr=>qAe (indexAddr_ok hT rfl rfl rfl rfl (by omega) hy)) rfl ?_
   refine wwg ?_
   refine qAm (os:=[.row [.d (.sl 1 (qAg ws)),.d (.bool b2)]]) (v:=.I n2) (fun k hk hr=>qAk rfl rfl h2 [0] (by decide) (congrArg (fun z=>[z]) ((hr 0 (List.mem_singleton.2 rfl)).trans rfl)) rfl rfl rfl rfl rfl rfl) rfl ?_
   refine wwg ?_
   refine qAm (os:=[]) (fun k hk hr=>qAe (indexAddr_ok hT rfl rfl rfl rfl (by omega) hz)) rfl ?_
   refine wwg ?_
   refine qAm (os:=[.row [.d (.sl 1 (qAg ws)),.d (.bool b3)]]) (v:=.I n3) (fun k hk hr=>qAk rfl rfl h3 [0] (by decide) (congrArg (fun z=>[z]) ((hr 0 (List.mem_singleton.2 rfl)).trans rfl)) rfl rfl rfl rfl rfl rfl) rfl ?_
   refine wwg ?_
   refine ww ?_
   exact rq ⟨rfl,rfl⟩ rfl (.refl _)
 ·have hm:=flipL_no h3
  rw [hm]
  unfold scO vIg
  refine qAb hT Tryz.func68 rfl rfl rfl rfl ?_;intro E hE
  refine ww ?_
  refine wwc hs ?_
  refine ww ?_
  refine qAa rfl (fun q=>?_) (fun q=>?_)
  ·refine ww ?_
   exact rq (h':=[.row [.d (.sl 1 (qAg ws)),.d (.bool true)]]) ⟨rfl,by rw [show (b||!false)=true by simp]⟩ rfl (.refl _)
  ·exfalso
   simp at q
   omega
def rdS (s:Shp) (w:List UInt8):Fld×Bool:=match s with
 | .num=>(.num (qBd w).1,(qBd w).2)
 | .txt=>(.txt (qBa w),true)
 | .rst=>(.rst w,true)
 | .flg=>(.flg (decide (w=[121,101,115])),true)
 | .nums=>(.nums ((qBk w).map fun v=>(qBd v).1),(qBk w).all fun v=>(qBd v).2)
 | .flps=>(.flps ((qBk w).map fun v=>(qCh v).1),(qBk w).all fun v=>(qCh v).2)
theorem allW_S {α:Type} {f:List UInt8→Option α} {g:List UInt8→α} {o:List UInt8→Bool} (h:∀ w,f w=if o w then some (g w) else none):∀ l,vAh f l=if l.all o then some (l.map g) else none
 | []=>rfl
 | w::l=>by
  rw [vAh,h w,allW_S h l,List.all_cons]
  by_cases h1:o w=true
  ·by_cases h2:l.all o=true
   ·simp [h1,h2]
   ·simp [h1,h2]
  ·simp [h1]
theorem rdF_S (s:Shp) (w:List UInt8):rdF s w=if (rdS s w).2 then some (rdS s w).1 else none:=by
 cases s with
 | num=>simp only [rdF,rdS,atoiR_num];by_cases h:(qBd w).2=true <;> simp [h]
 | txt=>rfl
 | rst=>rfl
 | flg=>rfl
 | nums=>simp only [rdF,rdS,allW_S (f:=vBe) (g:=fun v=>(qBd v).1) (o:=fun v=>(qBd v).2) (fun w=>atoiR_num w)];by_cases h:((qBk w).all fun v=>(qBd v).2)=true <;> simp [h]
 | flps=>simp only [rdF,rdS,allW_S (f:=qXe) (g:=fun v=>(qCh v).1) (o:=fun v=>(qCh v).2) (fun w=>flipW_S w)];by_cases h:((qBk w).all fun v=>(qCh v).2)=true <;> simp [h]
theorem vEl (s:Shp) (w:List UInt8):qDr (rdS s w).1=s:=by cases s <;> rfl
theorem storeA_one {T:Tr} {t off:Nat} {ti:TI} {C:List AV} {v:AV} (hf:T.find t=some ti) (hs:ti.size=1) (hv:cellsA v=some [v]) (ho:off < C.length):qDz T t C off v=some (C.set off v):=by
 unfold qDz
 rw [hf]
 simp only [hv]
 rw [show (Nat.beq [v].length ti.size&&Nat.ble (off+ti.size) C.length)=true by
  rw [hs,Bool.and_eq_true]
  exact ⟨rfl,Nat.ble_eq_true_of_le (by omega)⟩]
 rfl
theorem lowL_set {k:Nat} {v:AV} (hv:low k v=true):∀ (C:List AV) (off:Nat),qBl k C=true→qBl k (C.set off v)=true
 | [],_,h=>h
 | c::C,0,h=>by
  simp only [qBl,Bool.and_eq_true,List.set_cons_zero] at h ⊢
  exact ⟨hv,h.2⟩
 | c::C,off+1,h=>by
  simp only [qBl,Bool.and_eq_true,List.set_cons_succ] at h ⊢
  exact ⟨h.1,lowL_set hv C off h.2⟩
theorem qMa {v w:AV} (hv:AV.le v w):∀ (C:List AV) (off:Nat),AllLe (C.set off v) (C.set off w)
 | [],_=>trivial
 | c::C,0=>⟨hv,AllLe.refl C⟩
 | c::C,off+1=>⟨.refl _,qMa hv C off⟩
theorem lowH_rd {C:List AV} {ws:List (List UInt8)} {b:Bool} (h:qBl 2 C=true):qCn 2 [AObj.row C,.row (scO ws b)]=true:=by
 show (qBl 2 C&&(qBl 2 (scO ws b)&&true))=true
 rw [h];rfl
theorem vFp (k:Nat) (f:Fld):low k (qDv f)=true:=by cases f <;> rfl
theorem readNum_spec (C:List AV) (off:Nat) (ho:off < C.length) (hlow:qBl 2 C=true) (ws:List (List UInt8)) (b:Bool) (hw:(hdW ws).length≤1000000):Spec Tryz.prog 33 [.ptr 1 0,.ifa (tyS .num) (.ptr 0 off)] [.row C,.row (scO ws b)]
  (fun r h'=>r=.tup []∧h'=[.row (C.set off (qDv (rdS .num (hdW ws)).1)),.row (scO ws.tail (b||ws.isEmpty||!(rdS .num (hdW ws)).2))]):=by
 have hn:=nextC_spec ws b
 have hp:=parseC_spec ws.tail (b||ws.isEmpty) (hdW ws) hw
 have hS:=storeA_one (T:=T) (t:=3) (C:=C) (v:=.d (.int .i64 (qBd (hdW ws)).1)) rfl rfl rfl ho
 have hL:=lowH_rd (ws:=ws.tail) (b:=(b||ws.isEmpty||!(qBd (hdW ws)).2)) (lowL_set (v:=.d (.int .i64 (qBd (hdW ws)).1)) rfl C off hlow)
 simp only [rdS,qDv,tyS]
 generalize (b||ws.isEmpty||!(qBd (hdW ws)).2)=b2 at hp hL ⊢
 generalize (b||ws.isEmpty)=b1 at hn hp ⊢
 generalize (qBd (hdW ws)).1=n at hp hS hL ⊢
 generalize hdW ws=w at hn hp
 generalize ws.tail=wt at hn hp hL ⊢
 unfold scO at *
 refine qAb hT Tryz.func33 rfl rfl rfl rfl ?_;intro E hE
 refine ww ?_
 refine qAa rfl (fun q=>?_) (fun q=>absurd q (by decide))
 refine ww ?_
 refine qAd (qAk rfl rfl (hn) [1] (by decide) rfl rfl rfl rfl rfl rfl rfl) rfl ?_
 refine qAd (qAk rfl rfl (hp) [1] (by decide) rfl rfl rfl rfl rfl rfl rfl) rfl ?_
 refine ww ?_
 refine qAu (qAp (i:=0) (off:=off) hT rfl rfl rfl hS) (forceS_eq _ _) ?_
 refine ww ?_
 exact rqN (h6:=hL) ⟨rfl,rfl⟩ rfl (.refl _)
theorem readTxt_spec (C:List AV) (off:Nat) (ho:off < C.length) (hlow:qBl 2 C=true) (ws:List (List UInt8)) (b:Bool) (hw:(hdW ws).length≤1000000):Spec Tryz.prog 33 [.ptr 1 0,.ifa (tyS .txt) (.ptr 0 off)] [.row C,.row (scO ws b)]
  (fun r h'=>r=.tup []∧h'=[.row (C.set off (qDv (rdS .txt (hdW ws)).1)),.row (scO ws.tail (b||ws.isEmpty||!(rdS .txt (hdW ws)).2))]):=by
 have hn:=nextC_spec ws b
 have hS:=storeA_one (T:=T) (t:=9) (C:=C) (v:=.d (.str (qBa (hdW ws)))) rfl rfl rfl ho
 have hL:=lowH_rd (ws:=ws.tail) (b:=(b||ws.isEmpty)) (lowL_set (v:=.d (.str (qBa (hdW ws)))) rfl C off hlow)
 have ht:=textC_spec (hdW ws) hw
 simp only [rdS,qDv,tyS]
 rw [Bool.not_true,Bool.or_false]
 generalize (b||ws.isEmpty)=b1 at hn hL ⊢
 generalize ws.tail=wt at hn hL ⊢
 generalize hdW ws=w at *
 unfold scO at *
 refine qAb hT Tryz.func33 rfl rfl rfl rfl ?_;intro E hE
 refine ww ?_
 refine qAa rfl (fun q=>absurd q (by decide)) (fun q=>?_)
 refine ww ?_
 refine qAa rfl (fun q=>?_) (fun q=>absurd q (by decide))
 refine ww ?_
 refine qAd (qAk rfl rfl (hn) [1] (by decide) rfl rfl rfl rfl rfl rfl rfl) rfl ?_
 refine ww ?_
 refine wwc ht ?_
 refine ww ?_
 refine qAu (qAp (i:=0) (off:=off) hT rfl rfl rfl hS) (forceS_eq _ _) ?_
 refine ww ?_
 exact rqN (h6:=hL) ⟨rfl,rfl⟩ rfl (.refl _)
theorem readRst_spec (C:List AV) (off:Nat) (ho:off < C.length) (hlow:qBl 2 C=true) (ws:List (List UInt8)) (b:Bool) (hw:(hdW ws).length≤1000000):Spec Tryz.prog 33 [.ptr 1 0,.ifa (tyS .rst) (.ptr 0 off)] [.row C,.row (scO ws b)]
  (fun r h'=>r=.tup []∧h'=[.row (C.set off (qDv (rdS .rst (hdW ws)).1)),.row (scO ws.tail (b||ws.isEmpty||!(rdS .rst (hdW ws)).2))]):=by
 have hn:=nextC_spec ws b
 have hS:=storeA_one (T:=T) (t:=127) (C:=C) (v:=.d (.str (hdW ws))) rfl rfl rfl ho
 have hL:=lowH_rd (ws:=ws.tail) (b:=(b||ws.isEmpty)) (lowL_set (v:=.d (.str (hdW ws))) rfl C off hlow)
 simp only [rdS,qDv,tyS]
 rw [Bool.not_true,Bool.or_false]
 generalize (b||ws.isEmpty)=b1 at hn hL ⊢
 generalize ws.tail=wt at hn hL ⊢
 generalize hdW ws=w at *
 unfold scO at *
 refine qAb hT Tryz.func33 rfl rfl rfl rfl ?_;intro E hE
 refine ww ?_
 refine qAa rfl (fun q=>absurd q (by decide)) (fun q=>?_)
 refine ww ?_
 refine qAa rfl (fun q=>absurd q (by decide)) (fun q=>?_)
 refine ww ?_
 refine qAa rfl (fun q=>?_) (fun q=>absurd q (by decide))
 refine ww ?_
 refine qAd (qAk rfl rfl (hn) [1] (by decide) rfl rfl rfl rfl rfl rfl rfl) rfl ?_
 refine ww ?_
 refine qAu (qAp (i:=0) (off:=off) hT rfl rfl rfl hS) (forceS_eq _ _) ?_
 refine ww ?_
 exact rqN (h6:=hL) ⟨rfl,rfl⟩ rfl (.refl _)
theorem readFlg_spec (C:List AV) (off:Nat) (ho:off < C.length) (hlow:qBl 2 C=true) (ws:List (List UInt8)) (b:Bool) (hw:(hdW ws).length≤1000000):Spec Tryz.prog 33 [.ptr 1 0,.ifa (tyS .flg) (.ptr 0 off)] [.row C,.row (scO ws b)]
  (fun r h'=>r=.tup []∧h'=[.row (C.set off (qDv (rdS .flg (hdW ws)).1)),.row (scO ws.tail (b||ws.isEmpty||!(rdS .flg (hdW ws)).2))]):=by
 have hn:=nextC_spec ws b
 have hS:=storeA_one (T:=T) (t:=4) (C:=C) (v:=.d (.bool (hdW ws == [121,101,115]))) rfl rfl rfl ho
 have hL:=lowH_rd (ws:=ws.tail) (b:=(b||ws.isEmpty)) (lowL_set (v:=.d (.bool (hdW ws == [121,101,115]))) rfl C off hlow)
 simp only [rdS,qDv,tyS]
 rw [show decide (hdW ws=[121,101,115])=(hdW ws == [121,101,115]) by simp only [Bool.beq_eq_decide_eq]]
 rw [Bool.not_true,Bool.or_false]
 generalize (b||ws.isEmpty)=b1 at hn hL ⊢
 generalize ws.tail=wt at hn hL ⊢
 generalize hdW ws=w at *
 unfold scO at *
 refine qAb hT Tryz.func33 rfl rfl rfl rfl ?_;intro E hE
 refine ww ?_
 refine qAa rfl (fun q=>absurd q (by decide)) (fun q=>?_)
 refine ww ?_
 refine qAa rfl (fun q=>absurd q (by decide)) (fun q=>?_)
 refine ww ?_
 refine qAa rfl (fun q=>absurd q (by decide)) (fun q=>?_)
 refine ww ?_
 refine qAa rfl (fun q=>?_) (fun q=>absurd q (by decide))
 refine ww ?_
 refine qAd (qAk rfl rfl (hn) [1] (by decide) rfl rfl rfl rfl rfl rfl rfl) rfl ?_
 refine ww ?_
 refine qAu (qAp (i:=0) (off:=off) hT rfl rfl rfl hS) (forceS_eq _ _) ?_
 refine ww ?_
 exact rqN (h6:=hL) ⟨rfl,rfl⟩ rfl (.refl _)
end Tdoc
