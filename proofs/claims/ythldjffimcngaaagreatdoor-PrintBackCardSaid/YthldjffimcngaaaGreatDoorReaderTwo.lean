/- The facts of the program's functions, and the contracts of its lexer and parser; conditions stand in each contract. -/
import Derived.Shelf.Strings.Builder1
import Derived.Shelf.Strings.Builder2
import Derived.Shelf.Strings.OnBuilder
import Derived.Shelf.Small.Strs
import Derived.Shelf.Strings.Builder2Cap
import Derived.Shelf.Strconv.Atoi
import Derived.Shelf.Strconv.Itoa0
import Derived.Shelf.Strconv.Itoa1
import Derived.Shelf.LaysM
import Derived.Shelf.Strconv.Itoa2
import Derived.Shelf.Strconv.Itoa3
import Derived.Shelf.Strconv.AtoiErrFast
import Derived.Shelf.Strconv.ParseIntEmpty
import Derived.Shelf.Strconv.AtoiFail
import Derived.Shelf.Strconv.Clone
import Derived.Shelf.Strconv.SyntaxError
import Derived.Shelf.LaysC
import Derived.Shelf.Strconv.ToError
import Derived.Shelf.Strconv.Lower
import Derived.Shelf.Strconv.ParseUint10
import Derived.Shelf.Strconv.ParseUint10Empty
import Derived.Shelf.Strconv.ParseUint10Any
import Derived.Shelf.Strconv.ParseInt10
import Derived.Shelf.Strconv.AtoiLong
import Derived.Shelf.Strconv.AtoiInnerAll
import Derived.Shelf.Strconv.RangeError
import Derived.Shelf.Strconv.ToErrorRange
import Derived.Shelf.Strconv.AtoiAll
import Derived.Shelf.Strings.Search1
import Derived.Shelf.Strings.Prefix
import Derived.Test.YthldjffimcngaaaGreatDoorProg
set_option linter.all false
set_option linter.unusedVariables false
set_option linter.unusedSimpArgs false
set_option linter.unusedSectionVars false

/-
  DERIVED: THE SHELF's CONTRACTS AT THIS DUMP, IN PLAIN WORDS (tools/lay-plain.mjs out of 'TryzShelf.lean', which tools/lay-shelf.mjs wrote): THE SAME DECLARATIONS UNDER THE SAME NAMES: 'import', 'namespace', 'open', 'def', 'theorem' AND NOTHING ELSE: no command of the shelf's: FOR A HAND-IN. Each laying: the table of numbers ('.._ren') and one theorem, a field a fact of the dump's own or the kernel's comparison; each contract: ONE APPLICATION.
-/
namespace Go.Proofs
open Go.Shelf
def Tryz.lays169_ren:Go.Shelf.Ren:=⟨fun | 169=>33 | n=>n,fun | 70=>76 | 9=>9 | 0=>0 | 72=>79 | 37=>77 | 127=>127 | 3=>3 | 5=>5 | n=>n,fun | n=>n⟩
theorem Tryz.lays169:Go.Proofs.Lays.n169 Tryz.prog Tryz.lays169_ren:={
  mixed:=by kernel_rfl
  f169:=Tryz.func33.trans (congrArg some (by kernel_rfl))
  t0:=Tryz.underlying0
  a0:=Tryz.isAgg0
  z0:=Tryz.sizeOf0
  v0:=Tryz.zeroValue0
  t3:=Tryz.underlying3
  a3:=Tryz.isAgg3
  z3:=Tryz.sizeOf3
  v3:=Tryz.zeroValue3
  t9:=Tryz.underlying9
  a9:=Tryz.isAgg9
  z9:=Tryz.sizeOf9
  v9:=Tryz.zeroValue9
  t37:=Tryz.underlying77
  a37:=Tryz.isAgg77
  z37:=Tryz.sizeOf77
  v37:=Tryz.zeroValue77
  t70:=Tryz.underlying76
  a70:=Tryz.isAgg76
  z70:=Tryz.sizeOf76
  v70:=Tryz.zeroValue76
  t72:=Tryz.underlying79
  a72:=Tryz.isAgg79
  z72:=Tryz.sizeOf79
  v72:=Tryz.zeroValue79
  t127:=Tryz.underlying127
  a127:=Tryz.isAgg127
  z127:=Tryz.sizeOf127
  v127:=Tryz.zeroValue127 }
theorem Tryz.Builder_Extra_169:Builder.Extra Tryz.prog Tryz.lays169_ren:={
  sizeBuilder:=by kernel_rfl
  liesBuilder:=by kernel_rfl
  t5:=Tryz.underlying5
  a5:=Tryz.isAgg5
  z5:=Tryz.sizeOf5
  v5:=Tryz.zeroValue5
  infoByte:=by kernel_rfl
  cellsByte:=by kernel_rfl
  sizeByte:=by kernel_rfl
  neB5:=by decide }
open Go.RowKit in
theorem Tryz.Builder_String_any (B b:Nat) (l:List UInt8) (w:World) (h:Lib.IsBuilder 79 5 B b (Lib.byteCells l) w) (hBw:B≤w.heap.size) :
    Calls Tryz.prog 33 #[.pointer (some ⟨b,0,none⟩)] w fun e w'=>e=.returned (.string ⟨l.toArray⟩)∧Below B w w':=Any.Builder_String_any Tryz.lays169 Tryz.Builder_Extra_169 B b l w h hBw
def Tryz.lays156_ren:Go.Shelf.Ren:=⟨fun | 156=>92 | 165=>120 | 166=>32 | 169=>33 | 240=>79 | 241=>128 | 276=>113 | 277=>141 | n=>n,fun | 31=>33 | 9=>9 | 3=>3 | 4=>4 | 0=>0 | 20=>20 | 72=>79 | 76=>80 | 70=>76 | 37=>77 | 75=>25 | 127=>127 | 164=>143 | 5=>5 | 80=>82 | n=>n,fun | n=>n⟩
theorem Tryz.lays156:Go.Proofs.Lays.n156 Tryz.prog Tryz.lays156_ren:={
  mixed:=by kernel_rfl
  f156:=Tryz.func92.trans (congrArg some (by kernel_rfl))
  f165:=Tryz.func120.trans (congrArg some (by kernel_rfl))
  f166:=Tryz.func32.trans (congrArg some (by kernel_rfl))
  f169:=Tryz.func33.trans (congrArg some (by kernel_rfl))
  f240:=Tryz.func79.trans (congrArg some (by kernel_rfl))
  f241:=Tryz.func128.trans (congrArg some (by kernel_rfl))
  f276:=Tryz.func113.trans (congrArg some (by kernel_rfl))
  f277:=Tryz.func141.trans (congrArg some (by kernel_rfl))
  t0:=Tryz.underlying0
  a0:=Tryz.isAgg0
  z0:=Tryz.sizeOf0
  v0:=Tryz.zeroValue0
  t3:=Tryz.underlying3
  a3:=Tryz.isAgg3
  z3:=Tryz.sizeOf3
  v3:=Tryz.zeroValue3
  t4:=Tryz.underlying4
  a4:=Tryz.isAgg4
  z4:=Tryz.sizeOf4
  v4:=Tryz.zeroValue4
  t9:=Tryz.underlying9
  a9:=Tryz.isAgg9
  z9:=Tryz.sizeOf9
  v9:=Tryz.zeroValue9
  t20:=Tryz.underlying20
  a20:=Tryz.isAgg20
  z20:=Tryz.sizeOf20
  v20:=Tryz.zeroValue20
  t31:=Tryz.underlying33
  a31:=Tryz.isAgg33
  z31:=Tryz.sizeOf33
  v31:=Tryz.zeroValue33
  t37:=Tryz.underlying77
  a37:=Tryz.isAgg77
  z37:=Tryz.sizeOf77
  v37:=Tryz.zeroValue77
  t70:=Tryz.underlying76
  a70:=Tryz.isAgg76
  z70:=Tryz.sizeOf76
  v70:=Tryz.zeroValue76
  t72:=Tryz.underlying79
  a72:=Tryz.isAgg79
  z72:=Tryz.sizeOf79
  v72:=Tryz.zeroValue79
  t75:=Tryz.underlying25
  a75:=Tryz.isAgg25
  z75:=Tryz.sizeOf25
  v75:=Tryz.zeroValue25
  t76:=Tryz.underlying80
  a76:=Tryz.isAgg80
  z76:=Tryz.sizeOf80
  v76:=Tryz.zeroValue80
  t127:=Tryz.underlying127
  a127:=Tryz.isAgg127
  z127:=Tryz.sizeOf127
  v127:=Tryz.zeroValue127
  t164:=Tryz.underlying143
  a164:=Tryz.isAgg143
  z164:=Tryz.sizeOf143
  v164:=Tryz.zeroValue143 }
theorem Tryz.Builder_Extra_156:Builder.Extra Tryz.prog Tryz.lays156_ren:={
  sizeBuilder:=by kernel_rfl
  liesBuilder:=by kernel_rfl
  t5:=Tryz.underlying5
  a5:=Tryz.isAgg5
  z5:=Tryz.sizeOf5
  v5:=Tryz.zeroValue5
  infoByte:=by kernel_rfl
  cellsByte:=by kernel_rfl
  sizeByte:=by kernel_rfl
  neB5:=by decide }
open Go.RowKit in
theorem Tryz.strings_Join_none (a:Option Addr) (c:Nat) (sep:ByteArray) (w:World) :
    Calls Tryz.prog 92 #[.slice a 0 c,.string sep] w fun e w'=>e=.returned (.string ⟨#[]⟩)∧w'=w:=Any.strings_Join_none Tryz.lays156 Tryz.Builder_Extra_156 a c sep w
open Go.RowKit in
theorem Tryz.strings_Join (bk o c:Nat) (xs:List ByteArray) (sep:ByteArray) (w:World) (hcells:∀ (j:Nat) x,xs[j]?=some x→w.cell? ⟨bk,o+j,none⟩=some (.string x)) (hbk:bk < w.heap.size) (hN:xs.length≤140737488355328) (hcap:xs.length≤c) (hlen:(Lib.join (xs.map (·.data.toList)) sep.data.toList).length≤140737488355328) :
    Calls Tryz.prog 92 #[.slice (some ⟨bk,o,none⟩) xs.length c,.string sep] w fun e w'=>e=.returned (.string ⟨(Lib.join (xs.map (·.data.toList)) sep.data.toList).toArray⟩)∧Below w.heap.size w w':=Any.strings_Join Tryz.lays156 Tryz.Builder_Extra_156 bk o c xs sep w hcells hbk hN hcap hlen
def Tryz.lays137_ren:Go.Shelf.Ren:=⟨fun | 137=>133 | 217=>147 | 266=>152 | n=>n,fun | 9=>9 | 5=>5 | 3=>3 | n=>n,fun | n=>n⟩
theorem Tryz.lays137:Go.Proofs.Lays.n137 Tryz.prog Tryz.lays137_ren:={
  mixed:=by kernel_rfl
  f137:=Tryz.func133.trans (congrArg some (by kernel_rfl))
  f217:=Tryz.func147.trans (congrArg some (by kernel_rfl))
  f266:=Tryz.func152.trans (congrArg some (by kernel_rfl))
  t3:=Tryz.underlying3
  a3:=Tryz.isAgg3
  z3:=Tryz.sizeOf3
  v3:=Tryz.zeroValue3
  t5:=Tryz.underlying5
  a5:=Tryz.isAgg5
  z5:=Tryz.sizeOf5
  v5:=Tryz.zeroValue5
  t9:=Tryz.underlying9
  a9:=Tryz.isAgg9
  z9:=Tryz.sizeOf9
  v9:=Tryz.zeroValue9 }
open Go.RowKit in
theorem Tryz.strings_IndexByte (s:ByteArray) (c:Int) (w:World) :
    Calls Tryz.prog 133 #[.string s,.int .u8 c] w fun e w'=>e=.returned (.int .i64 (Lib.indexByte s.data.toList c.toNat.toUInt8))∧w'=w:=Any.strings_IndexByte Tryz.lays137 s c w
def Tryz.lays172_ren:Go.Shelf.Ren:=⟨fun | 172=>148 | 244=>153 | 245=>154 | 247=>155 | 279=>156 | 280=>157 | 281=>158 | 282=>159 | 287=>160 | 316=>161 | 171=>60 | 205=>162 | 321=>163 | 322=>164 | 243=>104 | 246=>124 | 283=>129 | 284=>130 | 285=>131 | 286=>132 | 129=>143 | 317=>142 | 318=>144 | 319=>145 | 320=>146 | 337=>150 | 338=>151 | n=>n,fun | 9=>9 | 3=>3 | 75=>25 | 76=>80 | 4=>4 | 5=>5 | 167=>171 | 37=>77 | 0=>0 | 85=>172 | 2=>2 | 168=>174 | 53=>151 | 175=>177 | 46=>165 | 210=>180 | 127=>127 | 145=>185 | 143=>183 | 21=>21 | 171=>150 | 173=>154 | 212=>162 | 51=>163 | 20=>20 | 213=>164 | 232=>169 | 233=>170 | 80=>82 | n=>n,fun | 15=>8 | 16=>9 | 17=>4 | 18=>6 | 19=>7 | n=>n⟩
def Tryz.laysM246_ren:Go.Shelf.Ren:=⟨fun | 246=>124 | 283=>129 | 284=>130 | 285=>131 | 286=>132 | 129=>143 | 317=>142 | 318=>144 | 319=>145 | 320=>146 | 337=>150 | 338=>151 | n=>n,fun | 2=>2 | 3=>3 | 9=>9 | 4=>4 | 171=>150 | 0=>0 | 53=>151 | 37=>77 | 5=>5 | 173=>154 | 212=>162 | 51=>163 | 20=>20 | 213=>164 | 46=>165 | 232=>169 | 233=>170 | n=>n,fun | 17=>4 | 18=>6 | 19=>7 | n=>n⟩
def Tryz.laysM243_ren:Go.Shelf.Ren:=⟨fun | 243=>104 | 246=>124 | 283=>129 | 284=>130 | 285=>131 | 286=>132 | 129=>143 | 317=>142 | 318=>144 | 319=>145 | 320=>146 | 337=>150 | 338=>151 | n=>n,fun | 3=>3 | 9=>9 | 2=>2 | 4=>4 | 171=>150 | 0=>0 | 53=>151 | 37=>77 | 5=>5 | 173=>154 | 212=>162 | 51=>163 | 20=>20 | 213=>164 | 46=>165 | 232=>169 | 233=>170 | n=>n,fun | 17=>4 | 18=>6 | 19=>7 | n=>n⟩
def Tryz.laysM171_ren:Go.Shelf.Ren:=⟨fun | 171=>60 | 243=>104 | 246=>124 | 283=>129 | 284=>130 | 285=>131 | 286=>132 | 129=>143 | 317=>142 | 318=>144 | 319=>145 | 320=>146 | 337=>150 | 338=>151 | n=>n,fun | 3=>3 | 9=>9 | 2=>2 | 4=>4 | 171=>150 | 0=>0 | 53=>151 | 37=>77 | 5=>5 | 173=>154 | 212=>162 | 51=>163 | 20=>20 | 213=>164 | 46=>165 | 232=>169 | 233=>170 | n=>n,fun | 17=>4 | 18=>6 | 19=>7 | n=>n⟩
theorem Tryz.laysM171:Go.Proofs.LaysM.n171 Tryz.prog Tryz.laysM171_ren:={
  mixed:=by kernel_rfl
  f129:=Tryz.func143.trans (congrArg some (by kernel_rfl))
  f171:=Tryz.func60.trans (congrArg some (by kernel_rfl))
  f243:=Tryz.func104.trans (congrArg some (by kernel_rfl))
  f246:=Tryz.func124.trans (congrArg some (by kernel_rfl))
  f283:=Tryz.func129.trans (congrArg some (by kernel_rfl))
  f284:=Tryz.func130.trans (congrArg some (by kernel_rfl))
  f285:=Tryz.func131.trans (congrArg some (by kernel_rfl))
  f286:=Tryz.func132.trans (congrArg some (by kernel_rfl))
  f317:=Tryz.func142.trans (congrArg some (by kernel_rfl))
  f318:=Tryz.func144.trans (congrArg some (by kernel_rfl))
  f319:=Tryz.func145.trans (congrArg some (by kernel_rfl))
  f320:=Tryz.func146.trans (congrArg some (by kernel_rfl))
  f337:=Tryz.func150.trans (congrArg some (by kernel_rfl))
  f338:=Tryz.func151.trans (congrArg some (by kernel_rfl))
  t0:=Tryz.underlying0
  a0:=Tryz.isAgg0
  z0:=Tryz.sizeOf0
  v0:=Tryz.zeroValue0
  t2:=Tryz.underlying2
  a2:=Tryz.isAgg2
  z2:=Tryz.sizeOf2
  v2:=Tryz.zeroValue2
  t3:=Tryz.underlying3
  a3:=Tryz.isAgg3
  z3:=Tryz.sizeOf3
  v3:=Tryz.zeroValue3
  t4:=Tryz.underlying4
  a4:=Tryz.isAgg4
  z4:=Tryz.sizeOf4
  v4:=Tryz.zeroValue4
  t5:=Tryz.underlying5
  a5:=Tryz.isAgg5
  z5:=Tryz.sizeOf5
  v5:=Tryz.zeroValue5
  t9:=Tryz.underlying9
  a9:=Tryz.isAgg9
  z9:=Tryz.sizeOf9
  v9:=Tryz.zeroValue9
  t20:=Tryz.underlying20
  a20:=Tryz.isAgg20
  z20:=Tryz.sizeOf20
  v20:=Tryz.zeroValue20
  t37:=Tryz.underlying77
  a37:=Tryz.isAgg77
  z37:=Tryz.sizeOf77
  v37:=Tryz.zeroValue77
  t46:=Tryz.underlying165
  a46:=Tryz.isAgg165
  z46:=Tryz.sizeOf165
  v46:=Tryz.zeroValue165
  t51:=Tryz.underlying163
  a51:=Tryz.isAgg163
  z51:=Tryz.sizeOf163
  v51:=Tryz.zeroValue163
  t53:=Tryz.underlying151
  a53:=Tryz.isAgg151
  z53:=Tryz.sizeOf151
  v53:=Tryz.zeroValue151
  t171:=Tryz.underlying150
  a171:=Tryz.isAgg150
  z171:=Tryz.sizeOf150
  v171:=Tryz.zeroValue150
  t173:=Tryz.underlying154
  a173:=Tryz.isAgg154
  z173:=Tryz.sizeOf154
  v173:=Tryz.zeroValue154
  t212:=Tryz.underlying162
  a212:=Tryz.isAgg162
  z212:=Tryz.sizeOf162
  v212:=Tryz.zeroValue162
  t213:=Tryz.underlying164
  a213:=Tryz.isAgg164
  z213:=Tryz.sizeOf164
  t232:=Tryz.underlying169
  a232:=Tryz.isAgg169
  z232:=Tryz.sizeOf169
  v232:=Tryz.zeroValue169
  t233:=Tryz.underlying170
  a233:=Tryz.isAgg170
  z233:=Tryz.sizeOf170
  v233:=Tryz.zeroValue170
  g17:=by kernel_rfl
  g18:=by kernel_rfl
  g19:=by kernel_rfl
  i0:=by kernel_rfl
  i2:=by kernel_rfl
  i3:=by kernel_rfl
  i4:=by kernel_rfl
  i5:=by kernel_rfl
  i9:=by kernel_rfl
  i20:=by kernel_rfl
  i37:=by kernel_rfl
  i46:=by kernel_rfl
  i51:=by kernel_rfl
  i53:=by kernel_rfl
  i171:=by kernel_rfl
  i173:=by kernel_rfl
  i212:=by kernel_rfl
  i232:=by kernel_rfl
  i233:=by kernel_rfl
  m17:=by kernel_rfl
  m18:=by kernel_rfl
  m19:=by kernel_rfl }
open Go.RowKit Go.Sort Go.Lib in
theorem Tryz.strconv_Itoa (n:Int) (h0:-9223372036854775808≤n) (h1:n≤9223372036854775807) (w:World) (htab:Lib.TabIs Tryz.prog w "internal/strconv.uint64pow10" .u64 Lib.pow10Tab) :
    Calls Tryz.prog 60 #[.int .i64 n] w fun e w'=>e=.returned (.string ⟨(Lib.itoa n).toArray⟩)∧∃ k os,w'=grow (w.drewN k) os:=Any.strconv_Itoa Tryz.laysM171 n h0 h1 w htab
def Tryz.laysC172_ren:Go.Shelf.Ren:=⟨fun | 172=>148 | 244=>153 | 245=>154 | 247=>155 | 279=>156 | 280=>157 | 281=>158 | 282=>159 | 287=>160 | 316=>161 | 171=>60 | 205=>162 | 321=>163 | 322=>164 | 243=>104 | 246=>124 | 283=>129 | 284=>130 | 285=>131 | 286=>132 | 129=>143 | 317=>142 | 318=>144 | 319=>145 | 320=>146 | 337=>150 | 338=>151 | n=>n,fun | 9=>9 | 3=>3 | 75=>25 | 76=>80 | 4=>4 | 5=>5 | 167=>171 | 37=>77 | 0=>0 | 85=>172 | 2=>2 | 168=>174 | 53=>151 | 175=>177 | 46=>165 | 210=>180 | 127=>127 | 145=>185 | 143=>183 | 21=>21 | 171=>150 | 173=>154 | 212=>162 | 51=>163 | 20=>20 | 213=>164 | 232=>169 | 233=>170 | 80=>82 | n=>n,fun | 15=>8 | 16=>9 | 17=>4 | 18=>6 | 19=>7 | n=>n⟩
theorem Tryz.laysC172:Go.Proofs.LaysC.n172 Tryz.prog Tryz.laysC172_ren:={
  mixed:=by kernel_rfl
  f129:=Tryz.func143.trans (congrArg some (by kernel_rfl))
  f171:=Tryz.func60.trans (congrArg some (by kernel_rfl))
  f172:=Tryz.func148.trans (congrArg some (by kernel_rfl))
  f205:=Tryz.func162.trans (congrArg some (by kernel_rfl))
  f243:=Tryz.func104.trans (congrArg some (by kernel_rfl))
  f244:=Tryz.func153.trans (congrArg some (by kernel_rfl))
  f245:=Tryz.func154.trans (congrArg some (by kernel_rfl))
  f246:=Tryz.func124.trans (congrArg some (by kernel_rfl))
  f247:=Tryz.func155.trans (congrArg some (by kernel_rfl))
  f279:=Tryz.func156.trans (congrArg some (by kernel_rfl))
  f280:=Tryz.func157.trans (congrArg some (by kernel_rfl))
  f281:=Tryz.func158.trans (congrArg some (by kernel_rfl))
  f282:=Tryz.func159.trans (congrArg some (by kernel_rfl))
  f283:=Tryz.func129.trans (congrArg some (by kernel_rfl))
  f284:=Tryz.func130.trans (congrArg some (by kernel_rfl))
  f285:=Tryz.func131.trans (congrArg some (by kernel_rfl))
  f286:=Tryz.func132.trans (congrArg some (by kernel_rfl))
  f287:=Tryz.func160.trans (congrArg some (by kernel_rfl))
  f316:=Tryz.func161.trans (congrArg some (by kernel_rfl))
  f317:=Tryz.func142.trans (congrArg some (by kernel_rfl))
  f318:=Tryz.func144.trans (congrArg some (by kernel_rfl))
  f319:=Tryz.func145.trans (congrArg some (by kernel_rfl))
  f320:=Tryz.func146.trans (congrArg some (by kernel_rfl))
  f321:=Tryz.func163.trans (congrArg some (by kernel_rfl))
  f322:=Tryz.func164.trans (congrArg some (by kernel_rfl))
  f337:=Tryz.func150.trans (congrArg some (by kernel_rfl))
  f338:=Tryz.func151.trans (congrArg some (by kernel_rfl))
  t0:=Tryz.underlying0
  a0:=Tryz.isAgg0
  z0:=Tryz.sizeOf0
  v0:=Tryz.zeroValue0
  t2:=Tryz.underlying2
  a2:=Tryz.isAgg2
  z2:=Tryz.sizeOf2
  v2:=Tryz.zeroValue2
  t3:=Tryz.underlying3
  a3:=Tryz.isAgg3
  z3:=Tryz.sizeOf3
  v3:=Tryz.zeroValue3
  t4:=Tryz.underlying4
  a4:=Tryz.isAgg4
  z4:=Tryz.sizeOf4
  v4:=Tryz.zeroValue4
  t5:=Tryz.underlying5
  a5:=Tryz.isAgg5
  z5:=Tryz.sizeOf5
  v5:=Tryz.zeroValue5
  t9:=Tryz.underlying9
  a9:=Tryz.isAgg9
  z9:=Tryz.sizeOf9
  v9:=Tryz.zeroValue9
  t20:=Tryz.underlying20
  a20:=Tryz.isAgg20
  z20:=Tryz.sizeOf20
  v20:=Tryz.zeroValue20
  t21:=Tryz.underlying21
  a21:=Tryz.isAgg21
  z21:=Tryz.sizeOf21
  v21:=Tryz.zeroValue21
  t37:=Tryz.underlying77
  a37:=Tryz.isAgg77
  z37:=Tryz.sizeOf77
  v37:=Tryz.zeroValue77
  t46:=Tryz.underlying165
  a46:=Tryz.isAgg165
  z46:=Tryz.sizeOf165
  v46:=Tryz.zeroValue165
  t51:=Tryz.underlying163
  a51:=Tryz.isAgg163
  z51:=Tryz.sizeOf163
  v51:=Tryz.zeroValue163
  t53:=Tryz.underlying151
  a53:=Tryz.isAgg151
  z53:=Tryz.sizeOf151
  v53:=Tryz.zeroValue151
  t75:=Tryz.underlying25
  a75:=Tryz.isAgg25
  z75:=Tryz.sizeOf25
  v75:=Tryz.zeroValue25
  t76:=Tryz.underlying80
  a76:=Tryz.isAgg80
  z76:=Tryz.sizeOf80
  v76:=Tryz.zeroValue80
  t85:=Tryz.underlying172
  a85:=Tryz.isAgg172
  z85:=Tryz.sizeOf172
  v85:=Tryz.zeroValue172
  t127:=Tryz.underlying127
  a127:=Tryz.isAgg127
  z127:=Tryz.sizeOf127
  v127:=Tryz.zeroValue127
  t143:=Tryz.underlying183
  a143:=Tryz.isAgg183
  z143:=Tryz.sizeOf183
  v143:=Tryz.zeroValue183
  t145:=Tryz.underlying185
  a145:=Tryz.isAgg185
  z145:=Tryz.sizeOf185
  v145:=Tryz.zeroValue185
  t167:=Tryz.underlying171
  a167:=Tryz.isAgg171
  z167:=Tryz.sizeOf171
  v167:=Tryz.zeroValue171
  t168:=Tryz.underlying174
  a168:=Tryz.isAgg174
  z168:=Tryz.sizeOf174
  v168:=Tryz.zeroValue174
  t171:=Tryz.underlying150
  a171:=Tryz.isAgg150
  z171:=Tryz.sizeOf150
  v171:=Tryz.zeroValue150
  t173:=Tryz.underlying154
  a173:=Tryz.isAgg154
  z173:=Tryz.sizeOf154
  v173:=Tryz.zeroValue154
  t175:=Tryz.underlying177
  a175:=Tryz.isAgg177
  z175:=Tryz.sizeOf177
  v175:=Tryz.zeroValue177
  t210:=Tryz.underlying180
  a210:=Tryz.isAgg180
  z210:=Tryz.sizeOf180
  v210:=Tryz.zeroValue180
  t212:=Tryz.underlying162
  a212:=Tryz.isAgg162
  z212:=Tryz.sizeOf162
  v212:=Tryz.zeroValue162
  t213:=Tryz.underlying164
  a213:=Tryz.isAgg164
  z213:=Tryz.sizeOf164
  t232:=Tryz.underlying169
  a232:=Tryz.isAgg169
  z232:=Tryz.sizeOf169
  v232:=Tryz.zeroValue169
  t233:=Tryz.underlying170
  a233:=Tryz.isAgg170
  z233:=Tryz.sizeOf170
  v233:=Tryz.zeroValue170
  g15:=by kernel_rfl
  g16:=by kernel_rfl
  g17:=by kernel_rfl
  g18:=by kernel_rfl
  g19:=by kernel_rfl
  t80:=Tryz.underlying82
  a80:=Tryz.isAgg82
  z80:=Tryz.sizeOf82
  v80:=Tryz.zeroValue82
  i0:=by kernel_rfl
  i2:=by kernel_rfl
  i3:=by kernel_rfl
  i4:=by kernel_rfl
  i5:=by kernel_rfl
  i9:=by kernel_rfl
  i20:=by kernel_rfl
  i21:=by kernel_rfl
  i37:=by kernel_rfl
  i46:=by kernel_rfl
  i51:=by kernel_rfl
  i53:=by kernel_rfl
  i75:=by kernel_rfl
  i76:=by kernel_rfl
  i80:=by kernel_rfl
  i85:=by kernel_rfl
  i127:=by kernel_rfl
  i143:=by kernel_rfl
  i145:=by kernel_rfl
  i167:=by kernel_rfl
  i168:=by kernel_rfl
  i171:=by kernel_rfl
  i173:=by kernel_rfl
  i175:=by kernel_rfl
  i210:=by kernel_rfl
  i212:=by kernel_rfl
  i232:=by kernel_rfl
  i233:=by kernel_rfl
  m15:=by kernel_rfl
  m16:=by kernel_rfl
  m17:=by kernel_rfl
  m18:=by kernel_rfl
  m19:=by kernel_rfl
  c0:=by kernel_rfl
  c2:=by kernel_rfl
  c3:=by kernel_rfl
  c4:=by kernel_rfl
  c5:=by kernel_rfl
  c9:=by kernel_rfl
  c20:=by kernel_rfl
  c21:=by kernel_rfl
  c37:=by kernel_rfl
  c46:=by kernel_rfl
  c51:=by kernel_rfl
  c53:=by kernel_rfl
  c75:=by kernel_rfl
  c76:=by kernel_rfl
  c80:=by kernel_rfl
  c85:=by kernel_rfl
  c127:=by kernel_rfl
  c143:=by kernel_rfl
  c145:=by kernel_rfl
  c167:=by kernel_rfl
  c168:=by kernel_rfl
  c171:=by kernel_rfl
  c173:=by kernel_rfl
  c175:=by kernel_rfl
  c210:=by kernel_rfl
  c212:=by kernel_rfl
  c213:=by kernel_rfl
  c232:=by kernel_rfl
  c233:=by kernel_rfl }
open Go.RowKit in
theorem Tryz.strconv_Atoi_ok (s:ByteArray) (hmax:s.size≤9223372036854775806) (v:Int) (h:Lib.atoiAll s.data.toList=.ok v) (w:World) :
    Calls Tryz.prog 148 #[.string s] w fun e w'=>e=.returned (.tuple #[.int .i64 v,.nilIface])∧(w'=w∨∃ t,w'=Lib.bytesWorld w 5 t):=Any.strconv_Atoi_ok Tryz.laysC172 s hmax v h w
open Go.RowKit in
theorem Tryz.strconv_Atoi_none (s:ByteArray) (hlim:s.size≤281474976710656) (h:(∀ v,Lib.atoiAll s.data.toList≠.ok v)∧Lib.atoiAll s.data.toList≠.range) (ev:Value) (w:World) (hv:w.cell? ⟨8,0,none⟩=some ev) (hev:ev=.nilIface∨∃ te pe,ev=.iface te pe) :
    Calls Tryz.prog 148 #[.string s] w fun e w'=>∃ N,e=.returned (.tuple #[.int .i64 (0),.iface 174 (.pointer (some ⟨N,0,none⟩))])∧w.heap.size≤N∧w'.heap[N]?=some (.cells #[.string ⟨#[65,116,111,105]⟩,.string s,ev] 180 (0,0))∧Below w.heap.size w w':=by
  cases e:Lib.atoiAll s.data.toList with
  | ok v=>exact absurd e (h.1 v)
  | range=>exact absurd e h.2
  | _=>exact Any.strconv_Atoi_syntax Tryz.laysC172 s hlim e ev w hv hev
open Go.RowKit in
theorem Tryz.strconv_Atoi_range (s:ByteArray) (hlim:s.size≤281474976710656) (h:Lib.atoiAll s.data.toList=.range) (ev:Value) (w:World) (hv:w.cell? ⟨9,0,none⟩=some ev) (hev:ev=.nilIface∨∃ te pe,ev=.iface te pe) :
    Calls Tryz.prog 148 #[.string s] w fun e w'=>∃ N,e=.returned (.tuple #[.int .i64 (Lib.atoiSat s.data.toList),.iface 174 (.pointer (some ⟨N,0,none⟩))])∧w.heap.size≤N∧w'.heap[N]?=some (.cells #[.string ⟨#[65,116,111,105]⟩,.string s,ev] 180 (0,0))∧Below w.heap.size w w':=Any.strconv_Atoi_range Tryz.laysC172 s hlim h ev w hv hev
def Tryz.lays206_ren:Go.Shelf.Ren:=⟨fun | 206=>149 | n=>n,fun | 9=>9 | 4=>4 | 3=>3 | n=>n,fun | n=>n⟩
def Tryz.lays99_ren:Go.Shelf.Ren:=⟨fun | 99=>140 | 206=>149 | n=>n,fun | 9=>9 | 4=>4 | 3=>3 | n=>n,fun | n=>n⟩
theorem Tryz.lays99:Go.Proofs.Lays.n99 Tryz.prog Tryz.lays99_ren:={
  mixed:=by kernel_rfl
  f99:=Tryz.func140.trans (congrArg some (by kernel_rfl))
  f206:=Tryz.func149.trans (congrArg some (by kernel_rfl))
  t3:=Tryz.underlying3
  a3:=Tryz.isAgg3
  z3:=Tryz.sizeOf3
  v3:=Tryz.zeroValue3
  t4:=Tryz.underlying4
  a4:=Tryz.isAgg4
  z4:=Tryz.sizeOf4
  v4:=Tryz.zeroValue4
  t9:=Tryz.underlying9
  a9:=Tryz.isAgg9
  z9:=Tryz.sizeOf9
  v9:=Tryz.zeroValue9 }
open Go.RowKit Go.Lib in
theorem Tryz.strings_HasPrefix (s p:ByteArray) (w:World) :
    Calls Tryz.prog 140 #[.string s,.string p] w fun e w'=>e=.returned (.bool (Lib.hasPrefix s.data.toList p.data.toList))∧w'=w:=Any.strings_HasPrefix Tryz.lays99 s p w
end Go.Proofs
