/- DERIVED: THE SHELF's CONTRACTS AT THIS DUMP, IN PLAIN WORDS (tools/lay-plain.mjs out of 'TryzShelf.lean', which tools/la -/
import Derived.Shelf.Strings.Builder1
import Derived.Shelf.Strings.Builder2
import Derived.Shelf.Strings.OnBuilder
import Derived.Shelf.Small.Wraps
import Derived.Shelf.Strings.BuilderF
import Derived.Shelf.Strconv.Atoi
import Derived.Shelf.Strconv.Itoa0
import Derived.Shelf.Strconv.Itoa1
import Derived.Shelf.LaysM
import Derived.Shelf.Strconv.Itoa2
import Derived.Shelf.Strconv.Itoa3
import Derived.Shelf.Strconv.AtoiErrFast
import Derived.Shelf.Strconv.ParseIntEmpty
import Derived.Shelf.Strconv.AtoiFail
import Derived.Shelf.Strconv.Clone
import Derived.Shelf.Strconv.SyntaxError
import Derived.Shelf.LaysC
import Derived.Shelf.Strconv.ToError
import Derived.Shelf.Strconv.Lower
import Derived.Shelf.Strconv.ParseUint10
import Derived.Shelf.Strconv.ParseUint10Empty
import Derived.Shelf.Strconv.ParseUint10Any
import Derived.Shelf.Strconv.ParseInt10
import Derived.Shelf.Strconv.AtoiLong
import Derived.Shelf.Strconv.AtoiInnerAll
import Derived.Shelf.Strconv.RangeError
import Derived.Shelf.Strconv.ToErrorRange
import Derived.Shelf.Strconv.AtoiAll
import Derived.Shelf.Strings.Search1
import Derived.Shelf.Strings.Search2
import Derived.Shelf.Strings.Search3
import Derived.Shelf.Strings.Shaped
import Derived.Shelf.GgClosure.StringsIndexFunc
import Derived.Ground.GgwProg
import Derived.Shelf.GgClosure.StringsIndexFuncTop
import Derived.Shelf.Strings.Prefix
import Derived.Shelf.Bits.Mul64
import Derived.Shelf.Strings.Repeat
import Derived.Shelf.Strings.FieldsFuncAny
import Derived.Shelf.Strings.FuncGrows
import Derived.Shelf.Strings.FieldsFuncGrows
import Derived.Test.YtogipknpafkfpaaGreatDoorProg
set_option linter.all false
namespace Go.Proofs
open Go.Shelf
def Tryz.lays156_ren:Go.Shelf.Ren:=⟨fun | 156=>65 | 165=>90 | 166=>42 | 169=>43 | 240=>74 | 241=>109 | 276=>101 | 277=>137 | n=>n,fun | 31=>52 | 9=>9 | 3=>3 | 4=>4 | 0=>0 | 20=>20 | 72=>89 | 76=>93 | 70=>87 | 37=>86 | 75=>66 | 127=>152 | 164=>172 | 5=>5 | 80=>95 | n=>n,fun | n=>n⟩
theorem Tryz.lays156:Go.Proofs.Lays.n156 Tryz.prog Tryz.lays156_ren:={
 mixed:=by kernel_rfl
 f156:=Tryz.func65.trans (congrArg some (by kernel_rfl))
 f165:=Tryz.func90.trans (congrArg some (by kernel_rfl))
 f166:=Tryz.func42.trans (congrArg some (by kernel_rfl))
 f169:=Tryz.func43.trans (congrArg some (by kernel_rfl))
 f240:=Tryz.func74.trans (congrArg some (by kernel_rfl))
 f241:=Tryz.func109.trans (congrArg some (by kernel_rfl))
 f276:=Tryz.func101.trans (congrArg some (by kernel_rfl))
 f277:=Tryz.func137.trans (congrArg some (by kernel_rfl))
 t0:=Tryz.underlying0
 a0:=Tryz.isAgg0
 z0:=Tryz.sizeOf0
 v0:=Tryz.zeroValue0
 t3:=Tryz.underlying3
 a3:=Tryz.isAgg3
 z3:=Tryz.sizeOf3
 v3:=Tryz.zeroValue3
 t4:=Tryz.underlying4
 a4:=Tryz.isAgg4
 z4:=Tryz.sizeOf4
 v4:=Tryz.zeroValue4
 t9:=Tryz.underlying9
 a9:=Tryz.isAgg9
 z9:=Tryz.sizeOf9
 v9:=Tryz.zeroValue9
 t20:=Tryz.underlying20
 a20:=Tryz.isAgg20
 z20:=Tryz.sizeOf20
 v20:=Tryz.zeroValue20
 t31:=Tryz.underlying52
 a31:=Tryz.isAgg52
 z31:=Tryz.sizeOf52
 v31:=Tryz.zeroValue52
 t37:=Tryz.underlying86
 a37:=Tryz.isAgg86
 z37:=Tryz.sizeOf86
 v37:=Tryz.zeroValue86
 t70:=Tryz.underlying87
 a70:=Tryz.isAgg87
 z70:=Tryz.sizeOf87
 v70:=Tryz.zeroValue87
 t72:=Tryz.underlying89
 a72:=Tryz.isAgg89
 z72:=Tryz.sizeOf89
 v72:=Tryz.zeroValue89
 t75:=Tryz.underlying66
 a75:=Tryz.isAgg66
 z75:=Tryz.sizeOf66
 v75:=Tryz.zeroValue66
 t76:=Tryz.underlying93
 a76:=Tryz.isAgg93
 z76:=Tryz.sizeOf93
 v76:=Tryz.zeroValue93
 t127:=Tryz.underlying152
 a127:=Tryz.isAgg152
 z127:=Tryz.sizeOf152
 v127:=Tryz.zeroValue152
 t164:=Tryz.underlying172
 a164:=Tryz.isAgg172
 z164:=Tryz.sizeOf172
 v164:=Tryz.zeroValue172 }
theorem Tryz.Builder_Extra_156:Builder.Extra Tryz.prog Tryz.lays156_ren:={
 sizeBuilder:=by kernel_rfl
 liesBuilder:=by kernel_rfl
 t5:=Tryz.underlying5
 a5:=Tryz.isAgg5
 z5:=Tryz.sizeOf5
 v5:=Tryz.zeroValue5
 infoByte:=by kernel_rfl
 cellsByte:=by kernel_rfl
 sizeByte:=by kernel_rfl
 neB5:=by decide }
open Go.RowKit in
theorem Tryz.strings_Join_none(a:Option Addr)(c:Nat)(sep:ByteArray)(w:World) :
 Calls Tryz.prog 65 #[.slice a 0 c,.string sep] w fun e w'=>e=.returned (.string ⟨#[]⟩)∧w'=w:=Any.strings_Join_none Tryz.lays156 Tryz.Builder_Extra_156 a c sep w
open Go.RowKit in
theorem Tryz.strings_Join(bk o c:Nat)(xs:List ByteArray)(sep:ByteArray)(w:World)(hcells:∀ (j:Nat) x,xs[j]? = some x→w.cell? ⟨bk,o+j,none⟩=some (.string x))(hbk:bk<w.heap.size)(hN:xs.length≤140737488355328)(hcap:xs.length≤c)(hlen:(Lib.join (xs.map (·.data.toList)) sep.data.toList).length≤140737488355328) :
 Calls Tryz.prog 65 #[.slice (some ⟨bk,o,none⟩) xs.length c,.string sep] w fun e w'=>e=.returned (.string ⟨(Lib.join (xs.map (·.data.toList)) sep.data.toList).toArray⟩)∧Below w.heap.size w w':=Any.strings_Join Tryz.lays156 Tryz.Builder_Extra_156 bk o c xs sep w hcells hbk hN hcap hlen
def Tryz.lays103_ren:Go.Shelf.Ren:=⟨fun | 103=>166 | 210=>175 | 206=>184 | n=>n,fun | 9=>9 | 4=>4 | 24=>112 | 3=>3 | n=>n,fun | n=>n⟩
theorem Tryz.lays103:Go.Proofs.Lays.n103 Tryz.prog Tryz.lays103_ren:={
 mixed:=by kernel_rfl
 f103:=Tryz.func166.trans (congrArg some (by kernel_rfl))
 f206:=Tryz.func184.trans (congrArg some (by kernel_rfl))
 f210:=Tryz.func175.trans (congrArg some (by kernel_rfl))
 t3:=Tryz.underlying3
 a3:=Tryz.isAgg3
 z3:=Tryz.sizeOf3
 v3:=Tryz.zeroValue3
 t4:=Tryz.underlying4
 a4:=Tryz.isAgg4
 z4:=Tryz.sizeOf4
 v4:=Tryz.zeroValue4
 t9:=Tryz.underlying9
 a9:=Tryz.isAgg9
 z9:=Tryz.sizeOf9
 v9:=Tryz.zeroValue9
 t24:=Tryz.underlying112
 a24:=Tryz.isAgg112
 z24:=Tryz.sizeOf112
 v24:=Tryz.zeroValue112 }
open Go.RowKit in
theorem Tryz.strings_CutPrefix(s p:ByteArray)(w:World) :
 Calls Tryz.prog 166 #[.string s,.string p] w fun e w'=>e=.returned (.tuple #[.string ⟨(Lib.trimPrefix s.data.toList p.data.toList).toArray⟩,.bool (Lib.hasPrefix s.data.toList p.data.toList)])∧w'=w:=Any.strings_CutPrefix Tryz.lays103 s p w
def Tryz.laysM171_ren:Go.Shelf.Ren:=⟨fun | 171=>79 | 243=>103 | 246=>131 | 283=>147 | 284=>148 | 285=>149 | 286=>150 | 129=>159 | 317=>158 | 318=>160 | 319=>161 | 320=>162 | 337=>168 | 338=>169 | n=>n,fun | 3=>3 | 9=>9 | 2=>2 | 4=>4 | 171=>227 | 0=>0 | 53=>228 | 37=>86 | 5=>5 | 173=>231 | 212=>239 | 51=>224 | 20=>20 | 213=>240 | 46=>209 | 232=>254 | 233=>255 | n=>n,fun | 17=>2 | 18=>3 | 19=>4 | n=>n⟩
theorem Tryz.laysM171:Go.Proofs.LaysM.n171 Tryz.prog Tryz.laysM171_ren:={
 mixed:=by kernel_rfl
 f129:=Tryz.func159.trans (congrArg some (by kernel_rfl))
 f171:=Tryz.func79.trans (congrArg some (by kernel_rfl))
 f243:=Tryz.func103.trans (congrArg some (by kernel_rfl))
 f246:=Tryz.func131.trans (congrArg some (by kernel_rfl))
 f283:=Tryz.func147.trans (congrArg some (by kernel_rfl))
 f284:=Tryz.func148.trans (congrArg some (by kernel_rfl))
 f285:=Tryz.func149.trans (congrArg some (by kernel_rfl))
 f286:=Tryz.func150.trans (congrArg some (by kernel_rfl))
 f317:=Tryz.func158.trans (congrArg some (by kernel_rfl))
 f318:=Tryz.func160.trans (congrArg some (by kernel_rfl))
 f319:=Tryz.func161.trans (congrArg some (by kernel_rfl))
 f320:=Tryz.func162.trans (congrArg some (by kernel_rfl))
 f337:=Tryz.func168.trans (congrArg some (by kernel_rfl))
 f338:=Tryz.func169.trans (congrArg some (by kernel_rfl))
 t0:=Tryz.underlying0
 a0:=Tryz.isAgg0
 z0:=Tryz.sizeOf0
 v0:=Tryz.zeroValue0
 t2:=Tryz.underlying2
 a2:=Tryz.isAgg2
 z2:=Tryz.sizeOf2
 v2:=Tryz.zeroValue2
 t3:=Tryz.underlying3
 a3:=Tryz.isAgg3
 z3:=Tryz.sizeOf3
 v3:=Tryz.zeroValue3
 t4:=Tryz.underlying4
 a4:=Tryz.isAgg4
 z4:=Tryz.sizeOf4
 v4:=Tryz.zeroValue4
 t5:=Tryz.underlying5
 a5:=Tryz.isAgg5
 z5:=Tryz.sizeOf5
 v5:=Tryz.zeroValue5
 t9:=Tryz.underlying9
 a9:=Tryz.isAgg9
 z9:=Tryz.sizeOf9
 v9:=Tryz.zeroValue9
 t20:=Tryz.underlying20
 a20:=Tryz.isAgg20
 z20:=Tryz.sizeOf20
 v20:=Tryz.zeroValue20
 t37:=Tryz.underlying86
 a37:=Tryz.isAgg86
 z37:=Tryz.sizeOf86
 v37:=Tryz.zeroValue86
 t46:=Tryz.underlying209
 a46:=Tryz.isAgg209
 z46:=Tryz.sizeOf209
 v46:=Tryz.zeroValue209
 t51:=Tryz.underlying224
 a51:=Tryz.isAgg224
 z51:=Tryz.sizeOf224
 v51:=Tryz.zeroValue224
 t53:=Tryz.underlying228
 a53:=Tryz.isAgg228
 z53:=Tryz.sizeOf228
 v53:=Tryz.zeroValue228
 t171:=Tryz.underlying227
 a171:=Tryz.isAgg227
 z171:=Tryz.sizeOf227
 v171:=Tryz.zeroValue227
 t173:=Tryz.underlying231
 a173:=Tryz.isAgg231
 z173:=Tryz.sizeOf231
 v173:=Tryz.zeroValue231
 t212:=Tryz.underlying239
 a212:=Tryz.isAgg239
 z212:=Tryz.sizeOf239
 v212:=Tryz.zeroValue239
 t213:=Tryz.underlying240
 a213:=Tryz.isAgg240
 z213:=Tryz.sizeOf240
 t232:=Tryz.underlying254
 a232:=Tryz.isAgg254
 z232:=Tryz.sizeOf254
 v232:=Tryz.zeroValue254
 t233:=Tryz.underlying255
 a233:=Tryz.isAgg255
 z233:=Tryz.sizeOf255
 v233:=Tryz.zeroValue255
 g17:=by kernel_rfl
 g18:=by kernel_rfl
 g19:=by kernel_rfl
 i0:=by kernel_rfl
 i2:=by kernel_rfl
 i3:=by kernel_rfl
 i4:=by kernel_rfl
 i5:=by kernel_rfl
 i9:=by kernel_rfl
 i20:=by kernel_rfl
 i37:=by kernel_rfl
 i46:=by kernel_rfl
 i51:=by kernel_rfl
 i53:=by kernel_rfl
 i171:=by kernel_rfl
 i173:=by kernel_rfl
 i212:=by kernel_rfl
 i232:=by kernel_rfl
 i233:=by kernel_rfl
 m17:=by kernel_rfl
 m18:=by kernel_rfl
 m19:=by kernel_rfl }
open Go.RowKit Go.Sort Go.Lib in
theorem Tryz.strconv_Itoa(n : Int)(h0 : -9223372036854775808 ≤ n)(h1 : n ≤ 9223372036854775807)(w : World)(htab : Lib.TabIs Tryz.prog w "internal/strconv.uint64pow10" .u64 Lib.pow10Tab) :
 Calls Tryz.prog 79 #[.int .i64 n] w fun e w'=>e=.returned (.string ⟨(Lib.itoa n).toArray⟩)∧∃ k os,w'=grow (w.drewN k) os:=Any.strconv_Itoa Tryz.laysM171 n h0 h1 w htab
def Tryz.laysC172_ren:Go.Shelf.Ren:=⟨fun | 172=>176 | 244=>185 | 245=>186 | 247=>194 | 279=>195 | 280=>196 | 281=>197 | 282=>198 | 287=>206 | 316=>207 | 171=>79 | 205=>208 | 321=>210 | 322=>211 | 243=>103 | 246=>131 | 283=>147 | 284=>148 | 285=>149 | 286=>150 | 129=>159 | 317=>158 | 318=>160 | 319=>161 | 320=>162 | 337=>168 | 338=>169 | n=>n,fun | 9=>9 | 3=>3 | 75=>66 | 76=>93 | 4=>4 | 5=>5 | 167=>272 | 37=>86 | 0=>0 | 85=>273 | 2=>2 | 168=>275 | 53=>228 | 175=>285 | 46=>209 | 210=>289 | 127=>152 | 145=>295 | 143=>293 | 21=>21 | 171=>227 | 173=>231 | 212=>239 | 51=>224 | 20=>20 | 213=>240 | 232=>254 | 233=>255 | 80=>95 | n=>n,fun | 15=>5 | 16=>6 | 17=>2 | 18=>3 | 19=>4 | n=>n⟩
theorem Tryz.laysC172:Go.Proofs.LaysC.n172 Tryz.prog Tryz.laysC172_ren:={
 mixed:=by kernel_rfl
 f129:=Tryz.func159.trans (congrArg some (by kernel_rfl))
 f171:=Tryz.func79.trans (congrArg some (by kernel_rfl))
 f172:=Tryz.func176.trans (congrArg some (by kernel_rfl))
 f205:=Tryz.func208.trans (congrArg some (by kernel_rfl))
 f243:=Tryz.func103.trans (congrArg some (by kernel_rfl))
 f244:=Tryz.func185.trans (congrArg some (by kernel_rfl))
 f245:=Tryz.func186.trans (congrArg some (by kernel_rfl))
 f246:=Tryz.func131.trans (congrArg some (by kernel_rfl))
 f247:=Tryz.func194.trans (congrArg some (by kernel_rfl))
 f279:=Tryz.func195.trans (congrArg some (by kernel_rfl))
 f280:=Tryz.func196.trans (congrArg some (by kernel_rfl))
 f281:=Tryz.func197.trans (congrArg some (by kernel_rfl))
 f282:=Tryz.func198.trans (congrArg some (by kernel_rfl))
 f283:=Tryz.func147.trans (congrArg some (by kernel_rfl))
 f284:=Tryz.func148.trans (congrArg some (by kernel_rfl))
 f285:=Tryz.func149.trans (congrArg some (by kernel_rfl))
 f286:=Tryz.func150.trans (congrArg some (by kernel_rfl))
 f287:=Tryz.func206.trans (congrArg some (by kernel_rfl))
 f316:=Tryz.func207.trans (congrArg some (by kernel_rfl))
 f317:=Tryz.func158.trans (congrArg some (by kernel_rfl))
 f318:=Tryz.func160.trans (congrArg some (by kernel_rfl))
 f319:=Tryz.func161.trans (congrArg some (by kernel_rfl))
 f320:=Tryz.func162.trans (congrArg some (by kernel_rfl))
 f321:=Tryz.func210.trans (congrArg some (by kernel_rfl))
 f322:=Tryz.func211.trans (congrArg some (by kernel_rfl))
 f337:=Tryz.func168.trans (congrArg some (by kernel_rfl))
 f338:=Tryz.func169.trans (congrArg some (by kernel_rfl))
 t0:=Tryz.underlying0
 a0:=Tryz.isAgg0
 z0:=Tryz.sizeOf0
 v0:=Tryz.zeroValue0
 t2:=Tryz.underlying2
 a2:=Tryz.isAgg2
 z2:=Tryz.sizeOf2
 v2:=Tryz.zeroValue2
 t3:=Tryz.underlying3
 a3:=Tryz.isAgg3
 z3:=Tryz.sizeOf3
 v3:=Tryz.zeroValue3
 t4:=Tryz.underlying4
 a4:=Tryz.isAgg4
 z4:=Tryz.sizeOf4
 v4:=Tryz.zeroValue4
 t5:=Tryz.underlying5
 a5:=Tryz.isAgg5
 z5:=Tryz.sizeOf5
 v5:=Tryz.zeroValue5
 t9:=Tryz.underlying9
 a9:=Tryz.isAgg9
 z9:=Tryz.sizeOf9
 v9:=Tryz.zeroValue9
 t20:=Tryz.underlying20
 a20:=Tryz.isAgg20
 z20:=Tryz.sizeOf20
 v20:=Tryz.zeroValue20
 t21:=Tryz.underlying21
 a21:=Tryz.isAgg21
 z21:=Tryz.sizeOf21
 v21:=Tryz.zeroValue21
 t37:=Tryz.underlying86
 a37:=Tryz.isAgg86
 z37:=Tryz.sizeOf86
 v37:=Tryz.zeroValue86
 t46:=Tryz.underlying209
 a46:=Tryz.isAgg209
 z46:=Tryz.sizeOf209
 v46:=Tryz.zeroValue209
 t51:=Tryz.underlying224
 a51:=Tryz.isAgg224
 z51:=Tryz.sizeOf224
 v51:=Tryz.zeroValue224
 t53:=Tryz.underlying228
 a53:=Tryz.isAgg228
 z53:=Tryz.sizeOf228
 v53:=Tryz.zeroValue228
 t75:=Tryz.underlying66
 a75:=Tryz.isAgg66
 z75:=Tryz.sizeOf66
 v75:=Tryz.zeroValue66
 t76:=Tryz.underlying93
 a76:=Tryz.isAgg93
 z76:=Tryz.sizeOf93
 v76:=Tryz.zeroValue93
 t85:=Tryz.underlying273
 a85:=Tryz.isAgg273
 z85:=Tryz.sizeOf273
 v85:=Tryz.zeroValue273
 t127:=Tryz.underlying152
 a127:=Tryz.isAgg152
 z127:=Tryz.sizeOf152
 v127:=Tryz.zeroValue152
 t143:=Tryz.underlying293
 a143:=Tryz.isAgg293
 z143:=Tryz.sizeOf293
 v143:=Tryz.zeroValue293
 t145:=Tryz.underlying295
 a145:=Tryz.isAgg295
 z145:=Tryz.sizeOf295
 v145:=Tryz.zeroValue295
 t167:=Tryz.underlying272
 a167:=Tryz.isAgg272
 z167:=Tryz.sizeOf272
 v167:=Tryz.zeroValue272
 t168:=Tryz.underlying275
 a168:=Tryz.isAgg275
 z168:=Tryz.sizeOf275
 v168:=Tryz.zeroValue275
 t171:=Tryz.underlying227
 a171:=Tryz.isAgg227
 z171:=Tryz.sizeOf227
 v171:=Tryz.zeroValue227
 t173:=Tryz.underlying231
 a173:=Tryz.isAgg231
 z173:=Tryz.sizeOf231
 v173:=Tryz.zeroValue231
 t175:=Tryz.underlying285
 a175:=Tryz.isAgg285
 z175:=Tryz.sizeOf285
 v175:=Tryz.zeroValue285
 t210:=Tryz.underlying289
 a210:=Tryz.isAgg289
 z210:=Tryz.sizeOf289
 v210:=Tryz.zeroValue289
 t212:=Tryz.underlying239
 a212:=Tryz.isAgg239
 z212:=Tryz.sizeOf239
 v212:=Tryz.zeroValue239
 t213:=Tryz.underlying240
 a213:=Tryz.isAgg240
 z213:=Tryz.sizeOf240
 t232:=Tryz.underlying254
 a232:=Tryz.isAgg254
 z232:=Tryz.sizeOf254
 v232:=Tryz.zeroValue254
 t233:=Tryz.underlying255
 a233:=Tryz.isAgg255
 z233:=Tryz.sizeOf255
 v233:=Tryz.zeroValue255
 g15:=by kernel_rfl
 g16:=by kernel_rfl
 g17:=by kernel_rfl
 g18:=by kernel_rfl
 g19:=by kernel_rfl
 t80:=Tryz.underlying95
 a80:=Tryz.isAgg95
 z80:=Tryz.sizeOf95
 v80:=Tryz.zeroValue95
 i0:=by kernel_rfl
 i2:=by kernel_rfl
 i3:=by kernel_rfl
 i4:=by kernel_rfl
 i5:=by kernel_rfl
 i9:=by kernel_rfl
 i20:=by kernel_rfl
 i21:=by kernel_rfl
 i37:=by kernel_rfl
 i46:=by kernel_rfl
 i51:=by kernel_rfl
 i53:=by kernel_rfl
 i75:=by kernel_rfl
 i76:=by kernel_rfl
 i80:=by kernel_rfl
 i85:=by kernel_rfl
 i127:=by kernel_rfl
 i143:=by kernel_rfl
 i145:=by kernel_rfl
 i167:=by kernel_rfl
 i168:=by kernel_rfl
 i171:=by kernel_rfl
 i173:=by kernel_rfl
 i175:=by kernel_rfl
 i210:=by kernel_rfl
 i212:=by kernel_rfl
 i232:=by kernel_rfl
 i233:=by kernel_rfl
 m15:=by kernel_rfl
 m16:=by kernel_rfl
 m17:=by kernel_rfl
 m18:=by kernel_rfl
 m19:=by kernel_rfl
 c0:=by kernel_rfl
 c2:=by kernel_rfl
 c3:=by kernel_rfl
 c4:=by kernel_rfl
 c5:=by kernel_rfl
 c9:=by kernel_rfl
 c20:=by kernel_rfl
 c21:=by kernel_rfl
 c37:=by kernel_rfl
 c46:=by kernel_rfl
 c51:=by kernel_rfl
 c53:=by kernel_rfl
 c75:=by kernel_rfl
 c76:=by kernel_rfl
 c80:=by kernel_rfl
 c85:=by kernel_rfl
 c127:=by kernel_rfl
 c143:=by kernel_rfl
 c145:=by kernel_rfl
 c167:=by kernel_rfl
 c168:=by kernel_rfl
 c171:=by kernel_rfl
 c173:=by kernel_rfl
 c175:=by kernel_rfl
 c210:=by kernel_rfl
 c212:=by kernel_rfl
 c213:=by kernel_rfl
 c232:=by kernel_rfl
 c233:=by kernel_rfl }
open Go.RowKit in
theorem Tryz.strconv_Atoi_ok(s:ByteArray)(hmax:s.size≤9223372036854775806)(v:Int)(h:Lib.atoiAll s.data.toList=.ok v)(w:World) :
 Calls Tryz.prog 176 #[.string s] w fun e w'=>e=.returned (.tuple #[.int .i64 v,.nilIface])∧(w'=w∨∃ t,w'=Lib.bytesWorld w 5 t):=Any.strconv_Atoi_ok Tryz.laysC172 s hmax v h w
open Go.RowKit in
theorem Tryz.strconv_Atoi_bad(s:ByteArray)(hlim:s.size≤281474976710656)(h1:∀ v,Lib.atoiAll s.data.toList≠.ok v)(h2:Lib.atoiAll s.data.toList≠.range)(ev:Value)(w:World)(hv:w.cell? ⟨5,0,none⟩=some ev)(hev:ev=.nilIface∨∃ te pe,ev=.iface te pe) :
 Calls Tryz.prog 176 #[.string s] w fun e w'=>∃ N,e=.returned (.tuple #[.int .i64 (0),.iface 275 (.pointer (some ⟨N,0,none⟩))])∧w.heap.size≤N∧w'.heap[N]? = some (.cells #[.string ⟨#[65,116,111,105]⟩,.string s,ev] 289 (0,0))∧Below w.heap.size w w':=Any.strconv_Atoi_syntax Tryz.laysC172 s hlim (by cases hh:Lib.atoiAll s.data.toList with | ok v=>exact absurd hh (h1 v) | range=>exact absurd hh h2 | _=>rfl) ev w hv hev
open Go.RowKit in
theorem Tryz.strconv_Atoi_range(s:ByteArray)(hlim:s.size≤281474976710656)(h:Lib.atoiAll s.data.toList=.range)(ev:Value)(w:World)(hv:w.cell? ⟨6,0,none⟩=some ev)(hev:ev=.nilIface∨∃ te pe,ev=.iface te pe) :
 Calls Tryz.prog 176 #[.string s] w fun e w'=>∃ N,e=.returned (.tuple #[.int .i64 (Lib.atoiSat s.data.toList),.iface 275 (.pointer (some ⟨N,0,none⟩))])∧w.heap.size≤N∧w'.heap[N]? = some (.cells #[.string ⟨#[65,116,111,105]⟩,.string s,ev] 289 (0,0))∧Below w.heap.size w w':=Any.strconv_Atoi_range Tryz.laysC172 s hlim h ev w hv hev
def Tryz.lays144_ren:Go.Shelf.Ren:=⟨fun | 144=>24 | 143=>68 | 219=>100 | 217=>127 | 225=>128 | 224=>129 | 267=>130 | 266=>145 | 314=>146 | n=>n,fun | 9=>9 | 4=>4 | 3=>3 | 5=>5 | 46=>209 | 146=>225 | 51=>224 | n=>n,fun | 1=>1 | n=>n⟩
theorem Tryz.lays144:Go.Proofs.Lays.n144 Tryz.prog Tryz.lays144_ren:={
 mixed:=by kernel_rfl
 f143:=Tryz.func68.trans (congrArg some (by kernel_rfl))
 f144:=Tryz.func24.trans (congrArg some (by kernel_rfl))
 f217:=Tryz.func127.trans (congrArg some (by kernel_rfl))
 f219:=Tryz.func100.trans (congrArg some (by kernel_rfl))
 f224:=Tryz.func129.trans (congrArg some (by kernel_rfl))
 f225:=Tryz.func128.trans (congrArg some (by kernel_rfl))
 f266:=Tryz.func145.trans (congrArg some (by kernel_rfl))
 f267:=Tryz.func130.trans (congrArg some (by kernel_rfl))
 f314:=Tryz.func146.trans (congrArg some (by kernel_rfl))
 t3:=Tryz.underlying3
 a3:=Tryz.isAgg3
 z3:=Tryz.sizeOf3
 v3:=Tryz.zeroValue3
 t4:=Tryz.underlying4
 a4:=Tryz.isAgg4
 z4:=Tryz.sizeOf4
 v4:=Tryz.zeroValue4
 t5:=Tryz.underlying5
 a5:=Tryz.isAgg5
 z5:=Tryz.sizeOf5
 v5:=Tryz.zeroValue5
 t9:=Tryz.underlying9
 a9:=Tryz.isAgg9
 z9:=Tryz.sizeOf9
 v9:=Tryz.zeroValue9
 t46:=Tryz.underlying209
 a46:=Tryz.isAgg209
 z46:=Tryz.sizeOf209
 v46:=Tryz.zeroValue209
 t51:=Tryz.underlying224
 a51:=Tryz.isAgg224
 z51:=Tryz.sizeOf224
 v51:=Tryz.zeroValue224
 t146:=Tryz.underlying225
 a146:=Tryz.isAgg225
 z146:=Tryz.sizeOf225
 v146:=Tryz.zeroValue225
 g1:=by kernel_rfl }
open Go.RowKit Go.Lib in
theorem Tryz.strings_Contains_one(s:ByteArray)(c:UInt8)(w:World) :
 Calls Tryz.prog 24 #[.string s,.string ⟨#[c]⟩] w fun e w'=>e=.returned (.bool (decide (0≤Lib.indexByte s.data.toList c)))∧w'=w:=Any.strings_Contains_one Tryz.lays144 s c w
def Tryz.laysGw17_ren:Go.Shelf.Ren:=⟨fun | 17=>170 | 15=>178 | 20=>189 | n=>n,fun | 9=>9 | 23=>194 | 4=>4 | 3=>3 | 0=>0 | 21=>21 | n=>n,fun | n=>n⟩
theorem Tryz.laysGw17:Go.Proofs.LaysGw.n17 Tryz.prog Tryz.laysGw17_ren:={
 mixed:=by kernel_rfl
 f15:=Tryz.func178.trans (congrArg some (by kernel_rfl))
 f17:=Tryz.func170.trans (congrArg some (by kernel_rfl))
 f20:=Tryz.func189.trans (congrArg some (by kernel_rfl))
 t0:=Tryz.underlying0
 a0:=Tryz.isAgg0
 z0:=Tryz.sizeOf0
 v0:=Tryz.zeroValue0
 i0:=by kernel_rfl
 t3:=Tryz.underlying3
 a3:=Tryz.isAgg3
 z3:=Tryz.sizeOf3
 v3:=Tryz.zeroValue3
 i3:=by kernel_rfl
 t4:=Tryz.underlying4
 a4:=Tryz.isAgg4
 z4:=Tryz.sizeOf4
 v4:=Tryz.zeroValue4
 i4:=by kernel_rfl
 t9:=Tryz.underlying9
 a9:=Tryz.isAgg9
 z9:=Tryz.sizeOf9
 v9:=Tryz.zeroValue9
 i9:=by kernel_rfl
 t21:=Tryz.underlying21
 a21:=Tryz.isAgg21
 z21:=Tryz.sizeOf21
 v21:=Tryz.zeroValue21
 i21:=by kernel_rfl
 t23:=Tryz.underlying194
 a23:=Tryz.isAgg194
 z23:=Tryz.sizeOf194
 v23:=Tryz.zeroValue194
 i23:=by kernel_rfl }
def Tryz.lays264_ren:Go.Shelf.Ren:=⟨fun | 264=>180 | n=>n,fun | 53=>228 | 46=>209 | n=>n,fun | n=>n⟩
theorem Tryz.lays264:Go.Proofs.Lays.n264 Tryz.prog Tryz.lays264_ren:={
 mixed:=by kernel_rfl
 f264:=Tryz.func180.trans (congrArg some (by kernel_rfl))
 t46:=Tryz.underlying209
 a46:=Tryz.isAgg209
 z46:=Tryz.sizeOf209
 v46:=Tryz.zeroValue209
 t53:=Tryz.underlying228
 a53:=Tryz.isAgg228
 z53:=Tryz.sizeOf228
 v53:=Tryz.zeroValue228 }
open Go.RowKit Go.Lib in
theorem Tryz.bits_Mul64(x y:Nat)(hx:x<18446744073709551616)(hy:y<18446744073709551616)(w:World) :
 Calls Tryz.prog 180 #[.int .u64 x,.int .u64 y] w fun e w'=>e=.returned (.tuple #[.int .u64 ((x*y / 18446744073709551616:Nat):Int),.int .u64 ((x*y % 18446744073709551616:Nat):Int)])∧w'=w:=Any.bits_Mul64 Tryz.lays264 x y hx hy w
def Tryz.lays105_ren:Go.Shelf.Ren:=⟨fun | 105=>188 | 212=>199 | 99=>200 | 165=>90 | 166=>42 | 170=>201 | 169=>43 | 263=>209 | 264=>180 | 206=>184 | 240=>74 | 241=>109 | 276=>101 | 277=>137 | n=>n,fun | 9=>9 | 3=>3 | 4=>4 | 20=>20 | 0=>0 | 46=>209 | 109=>278 | 5=>5 | 72=>89 | 76=>93 | 51=>224 | 146=>225 | 53=>228 | 148=>260 | 70=>87 | 37=>86 | 75=>66 | 127=>152 | 164=>172 | 80=>95 | n=>n,fun | n=>n⟩
theorem Tryz.lays105:Go.Proofs.Lays.n105 Tryz.prog Tryz.lays105_ren:={
 mixed:=by kernel_rfl
 f99:=Tryz.func200.trans (congrArg some (by kernel_rfl))
 f105:=Tryz.func188.trans (congrArg some (by kernel_rfl))
 f165:=Tryz.func90.trans (congrArg some (by kernel_rfl))
 f166:=Tryz.func42.trans (congrArg some (by kernel_rfl))
 f169:=Tryz.func43.trans (congrArg some (by kernel_rfl))
 f170:=Tryz.func201.trans (congrArg some (by kernel_rfl))
 f206:=Tryz.func184.trans (congrArg some (by kernel_rfl))
 f212:=Tryz.func199.trans (congrArg some (by kernel_rfl))
 f240:=Tryz.func74.trans (congrArg some (by kernel_rfl))
 f241:=Tryz.func109.trans (congrArg some (by kernel_rfl))
 f263:=Tryz.func209.trans (congrArg some (by kernel_rfl))
 f264:=Tryz.func180.trans (congrArg some (by kernel_rfl))
 f276:=Tryz.func101.trans (congrArg some (by kernel_rfl))
 f277:=Tryz.func137.trans (congrArg some (by kernel_rfl))
 t0:=Tryz.underlying0
 a0:=Tryz.isAgg0
 z0:=Tryz.sizeOf0
 v0:=Tryz.zeroValue0
 t3:=Tryz.underlying3
 a3:=Tryz.isAgg3
 z3:=Tryz.sizeOf3
 v3:=Tryz.zeroValue3
 t4:=Tryz.underlying4
 a4:=Tryz.isAgg4
 z4:=Tryz.sizeOf4
 v4:=Tryz.zeroValue4
 t5:=Tryz.underlying5
 a5:=Tryz.isAgg5
 z5:=Tryz.sizeOf5
 v5:=Tryz.zeroValue5
 t9:=Tryz.underlying9
 a9:=Tryz.isAgg9
 z9:=Tryz.sizeOf9
 v9:=Tryz.zeroValue9
 t20:=Tryz.underlying20
 a20:=Tryz.isAgg20
 z20:=Tryz.sizeOf20
 v20:=Tryz.zeroValue20
 t37:=Tryz.underlying86
 a37:=Tryz.isAgg86
 z37:=Tryz.sizeOf86
 v37:=Tryz.zeroValue86
 t46:=Tryz.underlying209
 a46:=Tryz.isAgg209
 z46:=Tryz.sizeOf209
 v46:=Tryz.zeroValue209
 t51:=Tryz.underlying224
 a51:=Tryz.isAgg224
 z51:=Tryz.sizeOf224
 v51:=Tryz.zeroValue224
 t53:=Tryz.underlying228
 a53:=Tryz.isAgg228
 z53:=Tryz.sizeOf228
 v53:=Tryz.zeroValue228
 t70:=Tryz.underlying87
 a70:=Tryz.isAgg87
 z70:=Tryz.sizeOf87
 v70:=Tryz.zeroValue87
 t72:=Tryz.underlying89
 a72:=Tryz.isAgg89
 z72:=Tryz.sizeOf89
 v72:=Tryz.zeroValue89
 t75:=Tryz.underlying66
 a75:=Tryz.isAgg66
 z75:=Tryz.sizeOf66
 v75:=Tryz.zeroValue66
 t76:=Tryz.underlying93
 a76:=Tryz.isAgg93
 z76:=Tryz.sizeOf93
 v76:=Tryz.zeroValue93
 t109:=Tryz.underlying278
 a109:=Tryz.isAgg278
 z109:=Tryz.sizeOf278
 v109:=Tryz.zeroValue278
 t127:=Tryz.underlying152
 a127:=Tryz.isAgg152
 z127:=Tryz.sizeOf152
 v127:=Tryz.zeroValue152
 t146:=Tryz.underlying225
 a146:=Tryz.isAgg225
 z146:=Tryz.sizeOf225
 v146:=Tryz.zeroValue225
 t148:=Tryz.underlying260
 a148:=Tryz.isAgg260
 z148:=Tryz.sizeOf260
 v148:=Tryz.zeroValue260
 t164:=Tryz.underlying172
 a164:=Tryz.isAgg172
 z164:=Tryz.sizeOf172
 v164:=Tryz.zeroValue172 }
theorem Tryz.Builder_Extra_105:Builder.Extra Tryz.prog Tryz.lays105_ren:={
 sizeBuilder:=by kernel_rfl
 liesBuilder:=by kernel_rfl
 t5:=Tryz.underlying5
 a5:=Tryz.isAgg5
 z5:=Tryz.sizeOf5
 v5:=Tryz.zeroValue5
 infoByte:=by kernel_rfl
 cellsByte:=by kernel_rfl
 sizeByte:=by kernel_rfl
 neB5:=by decide }
open Go.RowKit Go.Lib in
theorem Tryz.strings_Repeat(s:ByteArray)(c:Nat)(w:World)(hc:c≤9223372036854775807)(hlen:s.size*c≤140737488355328) :
 Calls Tryz.prog 188 #[.string s,.int .i64 c] w fun e w'=>e=.returned (.string ⟨(Lib.repeatL s.data.toList c).toArray⟩)∧Below w.heap.size w w':=Any.strings_Repeat Tryz.lays105 Tryz.Builder_Extra_105 s c w hc hlen
def Tryz.lays229_ren:Go.Shelf.Ren:=⟨fun | 229=>110 | n=>n,fun | 9=>9 | 40=>194 | 31=>52 | 152=>217 | 3=>3 | 0=>0 | 4=>4 | 21=>21 | 154=>219 | n=>n,fun | n=>n⟩
theorem Tryz.lays229:Go.Proofs.Lays.n229 Tryz.prog Tryz.lays229_ren:={
 mixed:=by kernel_rfl
 f229:=Tryz.func110.trans (congrArg some (by kernel_rfl))
 t0:=Tryz.underlying0
 a0:=Tryz.isAgg0
 z0:=Tryz.sizeOf0
 v0:=Tryz.zeroValue0
 t3:=Tryz.underlying3
 a3:=Tryz.isAgg3
 z3:=Tryz.sizeOf3
 v3:=Tryz.zeroValue3
 t4:=Tryz.underlying4
 a4:=Tryz.isAgg4
 z4:=Tryz.sizeOf4
 v4:=Tryz.zeroValue4
 t9:=Tryz.underlying9
 a9:=Tryz.isAgg9
 z9:=Tryz.sizeOf9
 v9:=Tryz.zeroValue9
 t21:=Tryz.underlying21
 a21:=Tryz.isAgg21
 z21:=Tryz.sizeOf21
 v21:=Tryz.zeroValue21
 t31:=Tryz.underlying52
 a31:=Tryz.isAgg52
 z31:=Tryz.sizeOf52
 v31:=Tryz.zeroValue52
 t40:=Tryz.underlying194
 a40:=Tryz.isAgg194
 z40:=Tryz.sizeOf194
 v40:=Tryz.zeroValue194
 t152:=Tryz.underlying217
 a152:=Tryz.isAgg217
 z152:=Tryz.sizeOf217
 v152:=Tryz.zeroValue217
 t154:=Tryz.underlying219
 a154:=Tryz.isAgg219
 z154:=Tryz.sizeOf219
 v154:=Tryz.zeroValue219 }
open Go.RowKit Go.Lib in
theorem Tryz.strings_ContainsFunc_grows(g:Nat)(lb:Array Value)(eg:∀ args w,(callFunc g args).run Tryz.prog w=.ok (.enter g args) w)(p:Nat→Bool)(s:ByteArray)(w:World)(hp:PredGrows Tryz.prog g lb p w) :
 Calls Tryz.prog 170 #[.string s,.func (.func g) #[] lb] w fun e w'=>e=.returned (.bool (decide (0≤Lib.idxFunc p true s)))∧Below w.heap.size w w':=Any.strings_ContainsFunc_grows Tryz.laysGw17 g lb eg p s w hp
open Go.RowKit Go.Lib in
theorem Tryz.strings_FieldsFunc_grows(g:Nat)(lb:Array Value)(eg:∀ args w,(callFunc g args).run Tryz.prog w=.ok (.enter g args) w)(p:Nat→Bool)(s:ByteArray)(w:World)(hs:s.size≤4294967296)(hp:PredGrows Tryz.prog g lb p w) :
 Calls Tryz.prog 110 #[.string s,.func (.func g) #[] lb] w fun e w'=>∃ A,e=.returned (.slice (some ⟨A,0,none⟩) (Lib.goFieldsP p s).length (Lib.goFieldsP p s).length)∧w.heap.size≤A∧
  w'.ownsRow w.heap.size 9 1 (.slice (some ⟨A,0,none⟩) (Lib.goFieldsP p s).length (Lib.goFieldsP p s).length) (Lib.goFieldsP p s).length ((Lib.goFieldsP p s).map Value.string)∧Below w.heap.size w w':=Any.strings_FieldsFunc_grows Tryz.lays229 g lb eg p s w hs hp (by kernel_rfl) (by kernel_rfl)
end Go.Proofs
