/-
  On the way to what follows: part 4 of 0.
-/
import Derived.Shelf.Small.Strs
import Derived.Shelf.Strconv.Atoi
import Derived.Shelf.Strconv.Itoa0
import Derived.Shelf.Strconv.Itoa1
import Derived.Shelf.LaysM
import Derived.Shelf.Strconv.Itoa2
import Derived.Shelf.Strconv.Itoa3
import Derived.Shelf.Strconv.AtoiErrFast
import Derived.Shelf.Strconv.ParseIntEmpty
import Derived.Shelf.Strconv.AtoiFail
import Derived.Shelf.Strconv.Clone
import Derived.Shelf.Strconv.SyntaxError
import Derived.Shelf.LaysC
import Derived.Shelf.Strconv.ToError
import Derived.Shelf.Strconv.Lower
import Derived.Shelf.Strconv.ParseUint10
import Derived.Shelf.Strconv.ParseUint10Empty
import Derived.Shelf.Strconv.ParseUint10Any
import Derived.Shelf.Strconv.ParseInt10
import Derived.Shelf.Strconv.AtoiLong
import Derived.Shelf.Strconv.AtoiInnerAll
import Derived.Shelf.Strconv.RangeError
import Derived.Shelf.Strconv.ToErrorRange
import Derived.Shelf.Strconv.AtoiAll
import Derived.Shelf.Strings.Search1
import Derived.Shelf.Strings.Search2
import Derived.Shelf.Strings.Search3
import Derived.Shelf.Strings.Shaped
import Derived.Test.YtcmepkfefoidcaaGreatDoorProg
import Derived.Test.YtcmepkfefoidcaaGreatDoorChecked
import Derived.Below
import Derived.Lib.IndexMore
import Derived.Lib.AtoiAll
import Derived.Lib.ItoaNum
import Derived.Test.YtcmepkfefoidcaaGreatDoorPk3
set_option linter.unusedVariables false
set_option linter.unusedSimpArgs false
namespace Go.Proofs
open Go.Shelf
def Tryz.lays137_ren:Go.Shelf.Ren:=⟨fun|137=>154|217=>206|266=>229|n=>n,fun|9=>9|5=>5|3=>3|n=>n,fun|n=>n⟩
theorem Tryz.lays137:Go.Proofs.Lays.n137 Tryz.prog Tryz.lays137_ren:={
 mixed:=by kernel_rfl
 f137:=Tryz.func154.trans (congrArg some (by kernel_rfl))
 f217:=Tryz.func206.trans (congrArg some (by kernel_rfl))
 f266:=Tryz.func229.trans (congrArg some (by kernel_rfl))
 t3:=Tryz.underlying3
 a3:=Tryz.isAgg3
 z3:=Tryz.sizeOf3
 v3:=Tryz.zeroValue3
 t5:=Tryz.underlying5
 a5:=Tryz.isAgg5
 z5:=Tryz.sizeOf5
 v5:=Tryz.zeroValue5
 t9:=Tryz.underlying9
 a9:=Tryz.isAgg9
 z9:=Tryz.sizeOf9
 v9:=Tryz.zeroValue9 }
open Go.RowKit in
theorem Tryz.strings_IndexByte (s:ByteArray) (c:Int) (w:World) :
  Calls Tryz.prog 154 #[.string s,.int .u8 c] w fun e w'=>e=.returned (.int .i64 (Lib.indexByte s.data.toList c.toNat.toUInt8))∧w'=w:=Any.strings_IndexByte Tryz.lays137 s c w
def Tryz.lays172_ren:Go.Shelf.Ren:=⟨fun|172=>207|244=>230|245=>231|247=>247|279=>248|280=>249|281=>250|282=>251|287=>263|316=>264|171=>209|205=>265|321=>276|322=>277|243=>232|246=>252|283=>266|284=>267|285=>268|286=>269|129=>151|317=>278|318=>279|319=>280|320=>281|337=>284|338=>169|n=>n,fun|9=>9|3=>3|75=>227|76=>228|4=>4|5=>5|167=>255|37=>250|0=>0|85=>256|2=>2|168=>258|53=>85|175=>265|46=>150|210=>269|127=>278|145=>281|143=>279|21=>21|171=>271|173=>273|212=>283|51=>99|20=>20|213=>284|232=>285|233=>233|80=>286|n=>n,fun|15=>2|16=>3|17=>4|18=>5|19=>0|n=>n⟩
def Tryz.laysM246_ren:Go.Shelf.Ren:=⟨fun|246=>252|283=>266|284=>267|285=>268|286=>269|129=>151|317=>278|318=>279|319=>280|320=>281|337=>284|338=>169|n=>n,fun|2=>2|3=>3|9=>9|4=>4|171=>271|0=>0|53=>85|37=>250|5=>5|173=>273|212=>283|51=>99|20=>20|213=>284|46=>150|232=>285|233=>233|n=>n,fun|17=>4|18=>5|19=>0|n=>n⟩
def Tryz.laysM243_ren:Go.Shelf.Ren:=⟨fun|243=>232|246=>252|283=>266|284=>267|285=>268|286=>269|129=>151|317=>278|318=>279|319=>280|320=>281|337=>284|338=>169|n=>n,fun|3=>3|9=>9|2=>2|4=>4|171=>271|0=>0|53=>85|37=>250|5=>5|173=>273|212=>283|51=>99|20=>20|213=>284|46=>150|232=>285|233=>233|n=>n,fun|17=>4|18=>5|19=>0|n=>n⟩
def Tryz.laysM171_ren:Go.Shelf.Ren:=⟨fun|171=>209|243=>232|246=>252|283=>266|284=>267|285=>268|286=>269|129=>151|317=>278|318=>279|319=>280|320=>281|337=>284|338=>169|n=>n,fun|3=>3|9=>9|2=>2|4=>4|171=>271|0=>0|53=>85|37=>250|5=>5|173=>273|212=>283|51=>99|20=>20|213=>284|46=>150|232=>285|233=>233|n=>n,fun|17=>4|18=>5|19=>0|n=>n⟩
theorem Tryz.laysM171:Go.Proofs.LaysM.n171 Tryz.prog Tryz.laysM171_ren:={
 mixed:=by kernel_rfl
 f129:=Tryz.func151.trans (congrArg some (by kernel_rfl))
 f171:=Tryz.func209.trans (congrArg some (by kernel_rfl))
 f243:=Tryz.func232.trans (congrArg some (by kernel_rfl))
 f246:=Tryz.func252.trans (congrArg some (by kernel_rfl))
 f283:=Tryz.func266.trans (congrArg some (by kernel_rfl))
 f284:=Tryz.func267.trans (congrArg some (by kernel_rfl))
 f285:=Tryz.func268.trans (congrArg some (by kernel_rfl))
 f286:=Tryz.func269.trans (congrArg some (by kernel_rfl))
 f317:=Tryz.func278.trans (congrArg some (by kernel_rfl))
 f318:=Tryz.func279.trans (congrArg some (by kernel_rfl))
 f319:=Tryz.func280.trans (congrArg some (by kernel_rfl))
 f320:=Tryz.func281.trans (congrArg some (by kernel_rfl))
 f337:=Tryz.func284.trans (congrArg some (by kernel_rfl))
 f338:=Tryz.func169.trans (congrArg some (by kernel_rfl))
 t0:=Tryz.underlying0
 a0:=Tryz.isAgg0
 z0:=Tryz.sizeOf0
 v0:=Tryz.zeroValue0
 t2:=Tryz.underlying2
 a2:=Tryz.isAgg2
 z2:=Tryz.sizeOf2
 v2:=Tryz.zeroValue2
 t3:=Tryz.underlying3
 a3:=Tryz.isAgg3
 z3:=Tryz.sizeOf3
 v3:=Tryz.zeroValue3
 t4:=Tryz.underlying4
 a4:=Tryz.isAgg4
 z4:=Tryz.sizeOf4
 v4:=Tryz.zeroValue4
 t5:=Tryz.underlying5
 a5:=Tryz.isAgg5
 z5:=Tryz.sizeOf5
 v5:=Tryz.zeroValue5
 t9:=Tryz.underlying9
 a9:=Tryz.isAgg9
 z9:=Tryz.sizeOf9
 v9:=Tryz.zeroValue9
 t20:=Tryz.underlying20
 a20:=Tryz.isAgg20
 z20:=Tryz.sizeOf20
 v20:=Tryz.zeroValue20
 t37:=Tryz.underlying250
 a37:=Tryz.isAgg250
 z37:=Tryz.sizeOf250
 v37:=Tryz.zeroValue250
 t46:=Tryz.underlying150
 a46:=Tryz.isAgg150
 z46:=Tryz.sizeOf150
 v46:=Tryz.zeroValue150
 t51:=Tryz.underlying99
 a51:=Tryz.isAgg99
 z51:=Tryz.sizeOf99
 v51:=Tryz.zeroValue99
 t53:=Tryz.underlying85
 a53:=Tryz.isAgg85
 z53:=Tryz.sizeOf85
 v53:=Tryz.zeroValue85
 t171:=Tryz.underlying271
 a171:=Tryz.isAgg271
 z171:=Tryz.sizeOf271
 v171:=Tryz.zeroValue271
 t173:=Tryz.underlying273
 a173:=Tryz.isAgg273
 z173:=Tryz.sizeOf273
 v173:=Tryz.zeroValue273
 t212:=Tryz.underlying283
 a212:=Tryz.isAgg283
 z212:=Tryz.sizeOf283
 v212:=Tryz.zeroValue283
 t213:=Tryz.underlying284
 a213:=Tryz.isAgg284
 z213:=Tryz.sizeOf284
 t232:=Tryz.underlying285
 a232:=Tryz.isAgg285
 z232:=Tryz.sizeOf285
 v232:=Tryz.zeroValue285
 t233:=Tryz.underlying233
 a233:=Tryz.isAgg233
 z233:=Tryz.sizeOf233
 v233:=Tryz.zeroValue233
 g17:=by kernel_rfl
 g18:=by kernel_rfl
 g19:=by kernel_rfl
 i0:=by kernel_rfl
 i2:=by kernel_rfl
 i3:=by kernel_rfl
 i4:=by kernel_rfl
 i5:=by kernel_rfl
 i9:=by kernel_rfl
 i20:=by kernel_rfl
 i37:=by kernel_rfl
 i46:=by kernel_rfl
 i51:=by kernel_rfl
 i53:=by kernel_rfl
 i171:=by kernel_rfl
 i173:=by kernel_rfl
 i212:=by kernel_rfl
 i232:=by kernel_rfl
 i233:=by kernel_rfl
 m17:=by kernel_rfl
 m18:=by kernel_rfl
 m19:=by kernel_rfl }
open Go.RowKit Go.Sort Go.Lib in
theorem Tryz.strconv_Itoa (n : Int) (h0 : -9223372036854775808 ≤ n) (h1 : n ≤ 9223372036854775807) (w : World) (htab : Lib.TabIs Tryz.prog w "internal/strconv.uint64pow10" .u64 Lib.pow10Tab) :
  Calls Tryz.prog 209 #[.int .i64 n] w fun e w'=>e=.returned (.string ⟨(Lib.itoa n).toArray⟩)∧∃ k os,w'=grow (w.drewN k) os:=Any.strconv_Itoa Tryz.laysM171 n h0 h1 w htab
def Tryz.laysC172_ren:Go.Shelf.Ren:=⟨fun|172=>207|244=>230|245=>231|247=>247|279=>248|280=>249|281=>250|282=>251|287=>263|316=>264|171=>209|205=>265|321=>276|322=>277|243=>232|246=>252|283=>266|284=>267|285=>268|286=>269|129=>151|317=>278|318=>279|319=>280|320=>281|337=>284|338=>169|n=>n,fun|9=>9|3=>3|75=>227|76=>228|4=>4|5=>5|167=>255|37=>250|0=>0|85=>256|2=>2|168=>258|53=>85|175=>265|46=>150|210=>269|127=>278|145=>281|143=>279|21=>21|171=>271|173=>273|212=>283|51=>99|20=>20|213=>284|232=>285|233=>233|80=>286|n=>n,fun|15=>2|16=>3|17=>4|18=>5|19=>0|n=>n⟩
theorem Tryz.laysC172:Go.Proofs.LaysC.n172 Tryz.prog Tryz.laysC172_ren:={
 mixed:=by kernel_rfl
 f129:=Tryz.func151.trans (congrArg some (by kernel_rfl))
 f171:=Tryz.func209.trans (congrArg some (by kernel_rfl))
 f172:=Tryz.func207.trans (congrArg some (by kernel_rfl))
 f205:=Tryz.func265.trans (congrArg some (by kernel_rfl))
 f243:=Tryz.func232.trans (congrArg some (by kernel_rfl))
 f244:=Tryz.func230.trans (congrArg some (by kernel_rfl))
 f245:=Tryz.func231.trans (congrArg some (by kernel_rfl))
 f246:=Tryz.func252.trans (congrArg some (by kernel_rfl))
 f247:=Tryz.func247.trans (congrArg some (by kernel_rfl))
 f279:=Tryz.func248.trans (congrArg some (by kernel_rfl))
 f280:=Tryz.func249.trans (congrArg some (by kernel_rfl))
 f281:=Tryz.func250.trans (congrArg some (by kernel_rfl))
 f282:=Tryz.func251.trans (congrArg some (by kernel_rfl))
 f283:=Tryz.func266.trans (congrArg some (by kernel_rfl))
 f284:=Tryz.func267.trans (congrArg some (by kernel_rfl))
 f285:=Tryz.func268.trans (congrArg some (by kernel_rfl))
 f286:=Tryz.func269.trans (congrArg some (by kernel_rfl))
 f287:=Tryz.func263.trans (congrArg some (by kernel_rfl))
 f316:=Tryz.func264.trans (congrArg some (by kernel_rfl))
 f317:=Tryz.func278.trans (congrArg some (by kernel_rfl))
 f318:=Tryz.func279.trans (congrArg some (by kernel_rfl))
 f319:=Tryz.func280.trans (congrArg some (by kernel_rfl))
 f320:=Tryz.func281.trans (congrArg some (by kernel_rfl))
 f321:=Tryz.func276.trans (congrArg some (by kernel_rfl))
 f322:=Tryz.func277.trans (congrArg some (by kernel_rfl))
 f337:=Tryz.func284.trans (congrArg some (by kernel_rfl))
 f338:=Tryz.func169.trans (congrArg some (by kernel_rfl))
 t0:=Tryz.underlying0
 a0:=Tryz.isAgg0
 z0:=Tryz.sizeOf0
 v0:=Tryz.zeroValue0
 t2:=Tryz.underlying2
 a2:=Tryz.isAgg2
 z2:=Tryz.sizeOf2
 v2:=Tryz.zeroValue2
 t3:=Tryz.underlying3
 a3:=Tryz.isAgg3
 z3:=Tryz.sizeOf3
 v3:=Tryz.zeroValue3
 t4:=Tryz.underlying4
 a4:=Tryz.isAgg4
 z4:=Tryz.sizeOf4
 v4:=Tryz.zeroValue4
 t5:=Tryz.underlying5
 a5:=Tryz.isAgg5
 z5:=Tryz.sizeOf5
 v5:=Tryz.zeroValue5
 t9:=Tryz.underlying9
 a9:=Tryz.isAgg9
 z9:=Tryz.sizeOf9
 v9:=Tryz.zeroValue9
 t20:=Tryz.underlying20
 a20:=Tryz.isAgg20
 z20:=Tryz.sizeOf20
 v20:=Tryz.zeroValue20
 t21:=Tryz.underlying21
 a21:=Tryz.isAgg21
 z21:=Tryz.sizeOf21
 v21:=Tryz.zeroValue21
 t37:=Tryz.underlying250
 a37:=Tryz.isAgg250
 z37:=Tryz.sizeOf250
 v37:=Tryz.zeroValue250
 t46:=Tryz.underlying150
 a46:=Tryz.isAgg150
 z46:=Tryz.sizeOf150
 v46:=Tryz.zeroValue150
 t51:=Tryz.underlying99
 a51:=Tryz.isAgg99
 z51:=Tryz.sizeOf99
 v51:=Tryz.zeroValue99
 t53:=Tryz.underlying85
 a53:=Tryz.isAgg85
 z53:=Tryz.sizeOf85
 v53:=Tryz.zeroValue85
 t75:=Tryz.underlying227
 a75:=Tryz.isAgg227
 z75:=Tryz.sizeOf227
 v75:=Tryz.zeroValue227
 t76:=Tryz.underlying228
 a76:=Tryz.isAgg228
 z76:=Tryz.sizeOf228
 v76:=Tryz.zeroValue228
 t85:=Tryz.underlying256
 a85:=Tryz.isAgg256
 z85:=Tryz.sizeOf256
 v85:=Tryz.zeroValue256
 t127:=Tryz.underlying278
 a127:=Tryz.isAgg278
 z127:=Tryz.sizeOf278
 v127:=Tryz.zeroValue278
 t143:=Tryz.underlying279
 a143:=Tryz.isAgg279
 z143:=Tryz.sizeOf279
 v143:=Tryz.zeroValue279
 t145:=Tryz.underlying281
 a145:=Tryz.isAgg281
 z145:=Tryz.sizeOf281
 v145:=Tryz.zeroValue281
 t167:=Tryz.underlying255
 a167:=Tryz.isAgg255
 z167:=Tryz.sizeOf255
 v167:=Tryz.zeroValue255
 t168:=Tryz.underlying258
 a168:=Tryz.isAgg258
 z168:=Tryz.sizeOf258
 v168:=Tryz.zeroValue258
 t171:=Tryz.underlying271
 a171:=Tryz.isAgg271
 z171:=Tryz.sizeOf271
 v171:=Tryz.zeroValue271
 t173:=Tryz.underlying273
 a173:=Tryz.isAgg273
 z173:=Tryz.sizeOf273
 v173:=Tryz.zeroValue273
 t175:=Tryz.underlying265
 a175:=Tryz.isAgg265
 z175:=Tryz.sizeOf265
 v175:=Tryz.zeroValue265
 t210:=Tryz.underlying269
 a210:=Tryz.isAgg269
 z210:=Tryz.sizeOf269
 v210:=Tryz.zeroValue269
 t212:=Tryz.underlying283
 a212:=Tryz.isAgg283
 z212:=Tryz.sizeOf283
 v212:=Tryz.zeroValue283
 t213:=Tryz.underlying284
 a213:=Tryz.isAgg284
 z213:=Tryz.sizeOf284
 t232:=Tryz.underlying285
 a232:=Tryz.isAgg285
 z232:=Tryz.sizeOf285
 v232:=Tryz.zeroValue285
 t233:=Tryz.underlying233
 a233:=Tryz.isAgg233
 z233:=Tryz.sizeOf233
 v233:=Tryz.zeroValue233
 g15:=by kernel_rfl
 g16:=by kernel_rfl
 g17:=by kernel_rfl
 g18:=by kernel_rfl
 g19:=by kernel_rfl
 t80:=Tryz.underlying286
 a80:=Tryz.isAgg286
 z80:=Tryz.sizeOf286
 v80:=Tryz.zeroValue286
 i0:=by kernel_rfl
 i2:=by kernel_rfl
 i3:=by kernel_rfl
 i4:=by kernel_rfl
 i5:=by kernel_rfl
 i9:=by kernel_rfl
 i20:=by kernel_rfl
 i21:=by kernel_rfl
 i37:=by kernel_rfl
 i46:=by kernel_rfl
 i51:=by kernel_rfl
 i53:=by kernel_rfl
 i75:=by kernel_rfl
 i76:=by kernel_rfl
 i80:=by kernel_rfl
 i85:=by kernel_rfl
 i127:=by kernel_rfl
 i143:=by kernel_rfl
 i145:=by kernel_rfl
 i167:=by kernel_rfl
 i168:=by kernel_rfl
 i171:=by kernel_rfl
 i173:=by kernel_rfl
 i175:=by kernel_rfl
 i210:=by kernel_rfl
 i212:=by kernel_rfl
 i232:=by kernel_rfl
 i233:=by kernel_rfl
 m15:=by kernel_rfl
 m16:=by kernel_rfl
 m17:=by kernel_rfl
 m18:=by kernel_rfl
 m19:=by kernel_rfl
 c0:=by kernel_rfl
 c2:=by kernel_rfl
 c3:=by kernel_rfl
 c4:=by kernel_rfl
 c5:=by kernel_rfl
 c9:=by kernel_rfl
 c20:=by kernel_rfl
 c21:=by kernel_rfl
 c37:=by kernel_rfl
 c46:=by kernel_rfl
 c51:=by kernel_rfl
 c53:=by kernel_rfl
 c75:=by kernel_rfl
 c76:=by kernel_rfl
 c80:=by kernel_rfl
 c85:=by kernel_rfl
 c127:=by kernel_rfl
 c143:=by kernel_rfl
 c145:=by kernel_rfl
 c167:=by kernel_rfl
 c168:=by kernel_rfl
 c171:=by kernel_rfl
 c173:=by kernel_rfl
 c175:=by kernel_rfl
 c210:=by kernel_rfl
 c212:=by kernel_rfl
 c213:=by kernel_rfl
 c232:=by kernel_rfl
 c233:=by kernel_rfl }
open Go.RowKit in
theorem Tryz.strconv_Atoi_ok (s:ByteArray) (hmax:s.size≤9223372036854775806) (v:Int) (h:Lib.atoiAll s.data.toList=.ok v) (w:World) :
  Calls Tryz.prog 207 #[.string s] w fun e w'=>e=.returned (.tuple #[.int .i64 v,.nilIface])∧(w'=w∨∃ t,w'=Lib.bytesWorld w 5 t):=Any.strconv_Atoi_ok Tryz.laysC172 s hmax v h w
open Go.RowKit in
theorem Tryz.strconv_Atoi_syntax (s:ByteArray) (hlim:s.size≤281474976710656) (h:(∀ v,Lib.atoiAll s.data.toList≠.ok v)∧Lib.atoiAll s.data.toList≠.range) (ev:Value) (w:World) (hv:w.cell? ⟨2,0,none⟩=some ev) (hev:ev=.nilIface∨∃ te pe,ev=.iface te pe) :
  Calls Tryz.prog 207 #[.string s] w fun e w'=>∃ N,e=.returned (.tuple #[.int .i64 (0),.iface 258 (.pointer (some ⟨N,0,none⟩))])∧w.heap.size≤N∧w'.heap[N]?=some (.cells #[.string ⟨#[65,116,111,105]⟩,.string s,ev] 269 (0,0))∧Below w.heap.size w w':=Any.strconv_Atoi_syntax Tryz.laysC172 s hlim (by cases hx:Lib.atoiAll s.data.toList<;>simp_all) ev w hv hev
open Go.RowKit in
theorem Tryz.strconv_Atoi_range (s:ByteArray) (hlim:s.size≤281474976710656) (h:Lib.atoiAll s.data.toList=.range) (ev:Value) (w:World) (hv:w.cell? ⟨3,0,none⟩=some ev) (hev:ev=.nilIface∨∃ te pe,ev=.iface te pe) :
  Calls Tryz.prog 207 #[.string s] w fun e w'=>∃ N,e=.returned (.tuple #[.int .i64 (Lib.atoiSat s.data.toList),.iface 258 (.pointer (some ⟨N,0,none⟩))])∧w.heap.size≤N∧w'.heap[N]?=some (.cells #[.string ⟨#[65,116,111,105]⟩,.string s,ev] 269 (0,0))∧Below w.heap.size w w':=Any.strconv_Atoi_range Tryz.laysC172 s hlim h ev w hv hev
def Tryz.lays219_ren:Go.Shelf.Ren:=⟨fun|219=>238|217=>206|225=>260|224=>261|267=>262|266=>229|314=>275|n=>n,fun|9=>9|3=>3|4=>4|5=>5|46=>150|146=>275|51=>99|n=>n,fun|1=>1|n=>n⟩
def Tryz.lays144_ren:Go.Shelf.Ren:=⟨fun|144=>173|143=>215|219=>238|217=>206|225=>260|224=>261|267=>262|266=>229|314=>275|n=>n,fun|9=>9|4=>4|3=>3|5=>5|46=>150|146=>275|51=>99|n=>n,fun|1=>1|n=>n⟩
theorem Tryz.lays144:Go.Proofs.Lays.n144 Tryz.prog Tryz.lays144_ren:={
 mixed:=by kernel_rfl
 f143:=Tryz.func215.trans (congrArg some (by kernel_rfl))
 f144:=Tryz.func173.trans (congrArg some (by kernel_rfl))
 f217:=Tryz.func206.trans (congrArg some (by kernel_rfl))
 f219:=Tryz.func238.trans (congrArg some (by kernel_rfl))
 f224:=Tryz.func261.trans (congrArg some (by kernel_rfl))
 f225:=Tryz.func260.trans (congrArg some (by kernel_rfl))
 f266:=Tryz.func229.trans (congrArg some (by kernel_rfl))
 f267:=Tryz.func262.trans (congrArg some (by kernel_rfl))
 f314:=Tryz.func275.trans (congrArg some (by kernel_rfl))
 t3:=Tryz.underlying3
 a3:=Tryz.isAgg3
 z3:=Tryz.sizeOf3
 v3:=Tryz.zeroValue3
 t4:=Tryz.underlying4
 a4:=Tryz.isAgg4
 z4:=Tryz.sizeOf4
 v4:=Tryz.zeroValue4
 t5:=Tryz.underlying5
 a5:=Tryz.isAgg5
 z5:=Tryz.sizeOf5
 v5:=Tryz.zeroValue5
 t9:=Tryz.underlying9
 a9:=Tryz.isAgg9
 z9:=Tryz.sizeOf9
 v9:=Tryz.zeroValue9
 t46:=Tryz.underlying150
 a46:=Tryz.isAgg150
 z46:=Tryz.sizeOf150
 v46:=Tryz.zeroValue150
 t51:=Tryz.underlying99
 a51:=Tryz.isAgg99
 z51:=Tryz.sizeOf99
 v51:=Tryz.zeroValue99
 t146:=Tryz.underlying275
 a146:=Tryz.isAgg275
 z146:=Tryz.sizeOf275
 v146:=Tryz.zeroValue275
 g1:=by kernel_rfl }
open Go.RowKit Go.Lib in
theorem Tryz.strings_Contains (s sub:ByteArray) (m:Int) (w:World) (hs:s.size<4294967281) (hm:w.cell? ⟨1,0,none⟩=some (.int .i64 m)) :
  Calls Tryz.prog 173 #[.string s,.string sub] w fun e w'=>e=.returned (.bool (Lib.contains s.data.toList sub.data.toList))∧w'=w:=Any.strings_Contains Tryz.lays144 s sub m w hs hm
end Go.Proofs
namespace Go.Proofs.YtcmepkfefoidcaaGreatDoor
open Go.AE Go.RowKit
set_option maxRecDepth 100000
theorem w64 {n:Int} (h:-9223372036854775808≤n∧n≤9223372036854775807):IntKind.i64.wrap n=n:=by rw [IntKind.wrap_i64];omega
abbrev AC:=List AV→List ABlk→(AO→List ABlk→Prop)→Prop
def gput (f:FuncId) (c:AC) (G:AG):AG:=fun g=>match Nat.beq g f with
 | true=>some c
 | false=>G g
def g0:AG:=fun _=>none
def COk (f:FuncId) (c:AC):Prop:=∀ args K k,c args K k→ACalls Tryz.prog f args K k
theorem g0_ok:GOk Tryz.prog g0:=fun f g h=>by simp [g0] at h
theorem gput_ok {f:FuncId} {c:AC} {G:AG} (hc:COk f c) (hG:GOk Tryz.prog G):GOk Tryz.prog (gput f c G):=fun h g hg=>by
 unfold gput at hg
 split at hg
 ·rename_i e
  have:=Nat.eq_of_beq_eq_true e
  subst this
  injection hg with hg
  subst hg
  exact hc
 ·exact hG h g hg
theorem call_ok {G:AG} (hG:GOk Tryz.prog G) (n:Nat) (f:FuncId) (args:List AV) (K:List ABlk) (k:AO→List ABlk→Prop) (h:acall1 T0 G n f args K k):ACalls Tryz.prog f args K k :=
 acall1_ok tabOk (Checked.mixed Tryz.checked) hG n f args K k h
theorem ACalls.lib {f:FuncId} {args:List AV} {K:List ABlk} {k:AO→List ABlk→Prop} (he:Ent Tryz.prog f)
  (h:∀ w m Args,St w m (hp K)→VL w m args Args→Calls Tryz.prog f Args w fun e w'=>∃ v u,e=.returned u∧Below w.heap.size w w'∧V w' m v u∧k (.ret v) K):ACalls Tryz.prog f args K k :=
 ⟨he,fun w m Args hS hV=>(h w m Args hS hV).mono fun e w' ⟨v,u,h1,h2,h3,h4⟩=>by
  subst h1
  exact⟨m,v,K,Tr.below hS.Ilt h2,hS.below h2,h3,h4⟩⟩
theorem ent {f:FuncId} {fn:Func} (h:Tf.get f=some fn) (hb:fn.body.isSome=true):Ent Tryz.prog f:=by
 obtain⟨h1,h2⟩:=tabOk.f f fn h
 exact⟨fn,h1,h2,hb⟩
theorem vl1 {w:World} {m:Mp} {a:AV} {A:Array Value} (h:VL w m [a] A):∃ u,A=#[u]∧V w m a u:=by
 obtain⟨h1,h2⟩:=h
 have hs:A.size=1:=h1.symm
 refine⟨A[0],?_,h2 0 (by simp) (by omega)⟩
 apply Array.ext
 ·simp [hs]
 ·intro i hi hi'
  have:i=0:=by simp at hi';omega
  subst this;rfl
theorem vl2 {w:World} {m:Mp} {a b:AV} {A:Array Value} (h:VL w m [a,b] A):∃ u v,A=#[u,v]∧V w m a u∧V w m b v:=by
 obtain⟨h1,h2⟩:=h
 have hs:A.size=2:=h1.symm
 refine⟨A[0],A[1],?_,h2 0 (by simp) (by omega),h2 1 (by simp) (by omega)⟩
 apply Array.ext
 ·simp [hs]
 ·intro i hi hi'
  have:i=0∨i=1:=by simp at hi';omega
  rcases this with rfl|rfl<;>rfl
theorem v_str {w:World} {m:Mp} {l:List UInt8} {u:Value} (h:V w m (.p (.str l)) u):∃ s:ByteArray,u=.string s∧s.data.toList=l:=by
 cases h with
 | p _ _ h=>cases h with
  | str s l hl=>exact⟨s,rfl,hl⟩
theorem v_int {w:World} {m:Mp} {q:IntKind} {n:Int} {u:Value} (h:V w m (.p (.int q n)) u):u=.int q n:=by
 cases h with
 | p _ _ h=>cases h;rfl
theorem size_of {s:ByteArray} {l:List UInt8} (h:s.data.toList=l):s.size=l.length:=by
 subst h;exact Array.length_toList.symm
theorem below_same (w:World):Below w.heap.size w w:=Below.refl _ _
def cIndexByte:AC:=fun args K k=>∃ l c,args=[.p (.str l),.p (.int .u8 c)]∧k (.ret (.p (.int .i64 (Lib.indexByte l c.toNat.toUInt8)))) K
theorem indexByte_ok:COk 154 cIndexByte:=by
 rintro args K k ⟨l,c,rfl,hk⟩
 refine ACalls.lib (ent rfl rfl) fun w m Args hS hV=>?_
 obtain⟨u,v,rfl,h1,h2⟩:=vl2 hV
 obtain⟨s,rfl,rfl⟩:=v_str h1
 obtain rfl:=v_int h2
 exact (Tryz.strings_IndexByte s c w).mono fun e w' ⟨h3,h4⟩=>⟨_,_,h3,by rw [h4];exact below_same w,.p _ _ (.int ..),hk⟩
def cContains:AC:=fun args K k=>∃ a b,args=[.p (.str a),.p (.str b)]∧a.length<4294967281∧k (.ret (.p (.bool (Lib.contains a b)))) K
theorem contains_ok:COk 173 cContains:=by
 rintro args K k ⟨a,b,rfl,hl,hk⟩
 refine ACalls.lib (ent rfl rfl) fun w m Args hS hV=>?_
 obtain⟨u,v,rfl,h1,h2⟩:=vl2 hV
 obtain⟨s,rfl,rfl⟩:=v_str h1
 obtain⟨t,rfl,rfl⟩:=v_str h2
 obtain⟨n,hn⟩:=hS.gl.facts.maxLen
 exact (Tryz.strings_Contains s t n w (by rw [size_of rfl];exact hl) hn).mono fun e w' ⟨h3,h4⟩=>⟨_,_,h3,by rw [h4];exact below_same w,.p _ _ (.bool ..),hk⟩
def atoiV:Lib.NumEnd Int→List UInt8→AV
 | .ok v,_=>.tup [.p (.int .i64 v),.p .nili]
 | .range,l=>.tup [.p (.int .i64 (Lib.atoiSat l)),.iface 258 .junk]
 | _,_=>.tup [.p (.int .i64 0),.iface 258 .junk]
def cAtoi:AC:=fun args K k=>∃ l,args=[.p (.str l)]∧l.length<1000000∧k (.ret (atoiV (Lib.atoiAll l) l)) K
theorem tup2 {w:World} {m:Mp} {a b:AV} {u v:Value} (h1:V w m a u) (h2:V w m b v):V w m (.tup [a,b]) (.tuple #[u,v]) :=
 .tup _ _ rfl fun j hj hj'=>by
  rcases j with _|_|j
  ·exact h1
  ·exact h2
  ·simp at hj;omega
theorem atoi_ok:COk 207 cAtoi:=by
 rintro args K k ⟨l,rfl,hl,hk⟩
 refine ACalls.lib (ent rfl rfl) fun w m Args hS hV=>?_
 obtain⟨u,rfl,h1⟩:=vl1 hV
 obtain⟨s,rfl,rfl⟩:=v_str h1
 have hs:=size_of (s:=s) rfl
 cases ha:Lib.atoiAll s.data.toList with
 | ok v =>
  rw [ha] at hk
  refine (Tryz.strconv_Atoi_ok s (by omega) v ha w).mono fun e w' ⟨h3,h4⟩=>⟨_,_,h3,?_,tup2 (.p _ _ (.int ..)) (.p _ _ .nili),hk⟩
  rcases h4 with rfl|⟨t,rfl⟩
  ·exact below_same _
  ·exact bytesWorld_below _ _ _
 | range =>
  rw [ha] at hk
  obtain⟨ev,h5,h6⟩:=hS.gl.facts.errRange
  exact (Tryz.strconv_Atoi_range s (by omega) ha ev w h5 h6).mono fun e w' ⟨N,h3,_,_,h4⟩=>⟨_,_,h3,h4,tup2 (.p _ _ (.int ..)) (.iface _ _ _ (.junk _)),hk⟩
 | _ =>
  rw [ha] at hk
  obtain⟨ev,h5,h6⟩:=hS.gl.facts.errSyntax
  exact (Tryz.strconv_Atoi_syntax s (by omega) ⟨fun v e=>(by rw [ha] at e;cases e),fun e=>(by rw [ha] at e;cases e)⟩ ev w h5 h6).mono fun e w' ⟨N,h3,_,_,h4⟩=>⟨_,_,h3,h4,tup2 (.p _ _ (.int ..)) (.iface _ _ _ (.junk _)),hk⟩
theorem grow_below (w:World) (n:Nat) (os:Array Obj):Below w.heap.size w (Sort.grow (w.drewN n) os) :=
 ⟨rfl,rfl,rfl,by simp [Sort.grow],fun j hj=>by simp [Sort.grow,Array.getElem?_append,hj]⟩
def cItoa:AC:=fun args K k=>∃ n,args=[.p (.int .i64 n)]∧-9223372036854775808≤n∧n≤9223372036854775807∧k (.ret (.p (.str (Lib.itoa n)))) K
theorem itoa_ok:COk 209 cItoa:=by
 rintro args K k ⟨n,rfl,h0,h1,hk⟩
 refine ACalls.lib (ent rfl rfl) fun w m Args hS hV=>?_
 obtain⟨u,rfl,h2⟩:=vl1 hV
 obtain rfl:=v_int h2
 exact (Tryz.strconv_Itoa n h0 h1 w hS.gl.facts.pow10).mono fun e w' ⟨h3,j,os,h4⟩=>⟨_,_,h3,by rw [h4];exact grow_below w j os,.p _ _ (.str _ _ rfl),hk⟩
end Go.Proofs.YtcmepkfefoidcaaGreatDoor
namespace Go.AE
theorem own_ok {w w':World} {m:Mp} {K:List ABlk} (hS:St w m (hp K)) (hB:RowKit.Below w.heap.size w w') {g:Nat} (hg:w.heap.size≤g) (hg':g<w'.heap.size) {l:Inf} {b:ABlk} (hb:BlkOk w' (m.set (len K) g l) l g b) :
  Tr w m w' (m.set (len K) g l)∧St w' (m.set (len K) g l) (hp (snoc K b)):=by
 have hab:=hS.absent (hp_len K)
 have hT:Tr w m w' (m.set (len K) g l):=by
  have h1:=Tr.below hS.Ilt hB
  refine⟨h1.os,h1.tape,h1.output,h1.size,h1.out,fun _ h=>h,h1.same,fun _ h=>.inl h,fun k=>?_,fun k hk=>?_⟩
  ·simp only [Mp.set]
   by_cases e:k=len K
   ·subst e;rw [hab];trivial
   ·simp only [e,if_false];exact Inf.step_refl _ _ trivial
  ·simp only [Mp.set] at hk ⊢
   by_cases e:k=len K
   ·simp only [e,if_true];exact .inr hg
   ·simp only [e,if_false] at hk ⊢;exact .inl ⟨hk,trivial⟩
 refine⟨hT,?_⟩
 rw [hp_snoc]
 refine⟨fun r1 r2 h1 h2 e=>?_,fun r1 h1=>?_,fun r1 h1=>?_,fun b hb=>?_,hS.gl.mono hT.imm hT.same,fun r1=>?_⟩
 ·simp only [Mp.set] at h1 h2 e
  by_cases e1:r1=len K<;>by_cases e2:r2=len K
  ·rw [e1,e2]
  ·simp only [e1,e2,if_true,if_false] at h1 h2 e
   have:=hS.lt r2 h2;omega
  ·simp only [e1,e2,if_true,if_false] at h1 h2 e
   have:=hS.lt r1 h1;omega
  ·simp only [e1,e2,if_false] at h1 h2 e
   exact hS.inj r1 r2 h1 h2 e
 ·simp only [Mp.set] at h1 ⊢
  by_cases e1:r1=len K
  ·simp only [e1,if_true];intro hI;have:=hS.Ilt _ hI;omega
  ·simp only [e1,if_false] at h1 ⊢;exact hS.notI r1 h1
 ·simp only [Mp.set] at h1 ⊢
  by_cases e1:r1=len K
  ·simp only [e1,if_true];exact hg'
  ·simp only [e1,if_false] at h1 ⊢;have:=hS.lt r1 h1;have:=hB.size;omega
 ·have:=hS.Ilt b hb;have:=hB.size;omega
 ·by_cases e1:r1=len K
  ·simp only [Mp.set,upd,e1,if_true];exact hb
  ·have hk:=hS.blk r1
   have e:BlkOk w' (m.set (len K) g l) (m.L r1) (m.ρ r1) (hp K r1):=by
    by_cases hl:(m.L r1).isLive
    ·exact hk.mono (hB.block _ (hS.lt r1 hl)) (fun _ _ hv=>hv.mono hT)
    ·exact hk.nolive hl
   simp only [Mp.set,upd,e1,if_false]
   exact e
end Go.AE
namespace Go.Ru
abbrev Bs:=List UInt8
inductive TK where
 | name
 | number
 | sign
 | word
deriving DecidableEq
def TK.code:TK→Int
 | .name=>1
 | .number=>2
 | .sign=>3
 | .word=>4
structure Tok where
 k:TK
 n:Int
 at_:Int
 tx:Bs
structure Nd where
 k:Int
 n:Int
 at_:Int
 tx:Bs
 kids:List Int
instance:Inhabited Nd:=⟨⟨0,0,0,[],[]⟩⟩
structure PS where
 ts:List Tok
 ns:List Nd
 mo:Int
inductive R (α:Type) where
 | ok (a:α) (s:PS)
 | bad (at_ err:Int)
def R.bind {α β:Type} (r:R α) (f:α→PS→R β):R β :=
 match r with
 | .ok a s=>f a s
 | .bad a e=>.bad a e
abbrev M (α:Type):=PS→R α
def hd (e:Int):List Tok→Int
 | []=>e
 | t::_=>t.at_
def isS (w:Bs):List Tok→Bool
 | []=>false
 | t::_=>match t.k with
  | .word=>t.tx==w
  | .sign=>t.tx==w
  | _=>false
def dropS (s:PS):PS:=⟨s.ts.tail,s.ns,s.mo⟩
def wantS (e:Int) (w:Bs) (s:PS):R Unit :=
 match isS w s.ts with
 | true=>.ok () (dropS s)
 | false=>.bad (hd e s.ts) 2
def identS (e:Int) (s:PS):R Tok :=
 match s.ts with
 | []=>.bad e 2
 | t::r=>match t.k with
  | .name=>.ok t ⟨r,s.ns,s.mo⟩
  | _=>.bad t.at_ 2
def putS (n:Nd) (s:PS):R Int:=.ok (s.ns.length:Int) ⟨s.ts,s.ns++[n],s.mo⟩
def moreS (d:Nat) (mo:Int):Int:=if (41:Int) - d>mo then 41 - d else mo
def withinS {α:Type} (e:Int) (d:Nat) (op cl:Bs) (what:M α) (s:PS):R α :=
 match isS op s.ts with
 | false=>.bad (hd e s.ts) 2
 | true=>match d with
  | 0=>.bad (hd e s.ts) 6
  | _+1=>(what ⟨s.ts.tail,s.ns,moreS d s.mo⟩).bind fun a s=>match cl with
   | []=>.ok a s
   | _=>(wantS e cl s).bind fun _ s=>.ok a s
def rowS:Nat→List Bs
 | 0=>[[42],[47],[37]]
 | 1=>[[43],[45]]
 | 2=>[[61,61],[33,61],[60],[60,61],[62],[62,61]]
 | 3=>[[38,38]]
 | _=>[[124,124]]
def anyS (l:List Bs) (ts:List Tok):Bool:=l.any fun w=>isS w ts
def rowLoop (l:List Bs) (opnd:M Int):Nat→Int→M Int
 | 0,x,s=>.ok x s
 | n+1,x,s=>match s.ts with
  | []=>.ok x s
  | t::r=>match anyS l (t::r) with
   | false=>.ok x s
   | true=>(opnd ⟨r,s.ns,s.mo⟩).bind fun y s=>(putS ⟨27,0,t.at_,t.tx,[x,y]⟩ s).bind fun x s=>rowLoop l opnd n x s
def exprS (una:M Int):Nat→M Int
 | 0,s=>una s
 | j+1,s=>(exprS una j s).bind fun x s=>rowLoop (rowS j) (exprS una j) s.ts.length x s
def primS (e:Int) (d:Nat) (inner:M Int) (s:PS):R Int :=
 match s.ts with
 | []=>.bad e 2
 | t::r=>match t.k with
  | .number=>putS ⟨20,t.n,t.at_,[],[]⟩ ⟨r,s.ns,s.mo⟩
  | .name=>match isS [91] r with
   | true=>(withinS e d [91] [93] inner ⟨r,s.ns,s.mo⟩).bind fun x s=>putS ⟨23,0,t.at_,t.tx,[x]⟩ s
   | false=>putS ⟨22,0,t.at_,t.tx,[]⟩ ⟨r,s.ns,s.mo⟩
  | _=>match t.tx==[116,114,117,101] with
   | true=>putS ⟨21,1,t.at_,[],[]⟩ ⟨r,s.ns,s.mo⟩
   | false=>match t.tx==[102,97,108,115,101] with
    | true=>putS ⟨21,0,t.at_,[],[]⟩ ⟨r,s.ns,s.mo⟩
    | false=>match t.tx==[108,101,110] with
     | true=>(identS e ⟨r,s.ns,s.mo⟩).bind fun t' s=>putS ⟨24,0,t.at_,t'.tx,[]⟩ s
     | false=>match t.tx==[38] with
      | true=>(identS e ⟨r,s.ns,s.mo⟩).bind fun t' s=>putS ⟨25,0,t.at_,t'.tx,[]⟩ s
      | false=>match t.tx==[40] with
       | true=>withinS e d [40] [41] inner s
       | false=>.bad t.at_ 2
def unaB (e:Int) (d:Nat) (una inner:M Int) (s:PS):R Int :=
 match s.ts with
 | []=>.bad e 2
 | t::r=>match isS [45] (t::r) || isS [33] (t::r) with
  | true=>(withinS e d t.tx [] una s).bind fun x s=>putS ⟨26,0,t.at_,t.tx,[x]⟩ s
  | false=>primS e d inner s
def unaS (e:Int):Nat→M Int
 | 0=>unaB e 0 (fun _=>.bad 0 0) (fun _=>.bad 0 0)
 | d+1=>unaB e (d+1) (unaS e d) (exprS (unaS e d) 5)
def exS (e:Int) (d:Nat):M Int:=exprS (unaS e d) 5
def inS (e:Int):Nat→M Int
 | 0=>fun _=>.bad 0 0
 | d+1=>exS e d
def indexS (e:Int) (d:Nat):M Int:=withinS e d [91] [93] (inS e d)
def commaL {α:Type} (one:List α→M (List α)):Nat→List α→M (List α)
 | 0,l,s=>.ok l s
 | n+1,l,s=>match isS [44] s.ts with
  | true=>(one l (dropS s)).bind fun l s=>commaL one n l s
  | false=>.ok l s
def listS {α:Type} (one:List α→M (List α)) (l:List α) (s:PS):R (List α) :=
 match isS [41] s.ts with
 | true=>.ok l s
 | false=>(one l s).bind fun l s=>commaL one s.ts.length l s
def oneS (m:M Int) (l:List Int):M (List Int):=fun s=>(m s).bind fun x s=>.ok (l++[x]) s
def callS (e:Int) (d:Nat) (at_:Int) (tx:Bs) (s:PS):R Int :=
 (identS e s).bind fun t s=>(putS ⟨19,0,t.at_,t.tx,[]⟩ s).bind fun x s =>
  (withinS e d [40] [41] (listS (oneS (inS e d)) [x]) s).bind fun l s=>putS ⟨13,0,at_,tx,l⟩ s
def chanS (e:Int) (s:PS):R Int:=(identS e s).bind fun t s=>putS ⟨18,0,t.at_,t.tx,[]⟩ s
def namedS (e:Int) (d:Nat) (s:PS):R Int :=
 (identS e s).bind fun t s=>match isS [91] s.ts with
  | true=>(indexS e d s).bind fun x s=>(wantS e [61] s).bind fun _ s=>(exS e d s).bind fun y s=>putS ⟨8,0,t.at_,t.tx,[x,y]⟩ s
  | false=>(wantS e [61] s).bind fun _ s=>match isS [105,110] s.ts with
   | true=>(chanS e (dropS s)).bind fun x s=>putS ⟨9,0,t.at_,t.tx,[x]⟩ s
   | false=>match isS [99,97,108,108] s.ts with
    | true=>callS e d t.at_ t.tx (dropS s)
    | false=>match isS [110,101,119] s.ts with
     | true=>(exS e d (dropS s)).bind fun x s=>putS ⟨17,0,t.at_,t.tx,[x]⟩ s
     | false=>(exS e d s).bind fun x s=>putS ⟨7,0,t.at_,t.tx,[x]⟩ s
def plainS (e:Int) (d:Nat) (s:PS):R Int :=
 let at_:=hd e s.ts
 match isS [111,117,116] s.ts with
 | true=>(chanS e (dropS s)).bind fun c s=>(exS e d s).bind fun x s=>putS ⟨10,0,at_,[],[c,x]⟩ s
 | false=>match isS [99,97,108,108] s.ts with
  | true=>callS e d at_ [] (dropS s)
  | false=>match isS [116,104,114,111,119] s.ts with
   | true=>(exS e d (dropS s)).bind fun x s=>putS ⟨15,0,at_,[],[x]⟩ s
   | false=>match isS [114,101,116,117,114,110] s.ts with
    | true=>match isS [59] s.ts.tail with
     | true=>putS ⟨14,0,at_,[],[]⟩ (dropS s)
     | false=>(exS e d (dropS s)).bind fun x s=>putS ⟨14,0,at_,[],[x]⟩ s
    | false=>namedS e d s
def stmtsL (stmt:M Int):Nat→List Int→M (List Int)
 | 0,_,_=>.bad 0 0
 | n+1,l,s=>match isS [125] s.ts with
  | true=>.ok l s
  | false=>(stmt s).bind fun x s=>stmtsL stmt n (l++[x]) s
def stmtsS (stmt:M Int) (l:List Int) (s:PS):R (List Int):=stmtsL stmt (s.ts.length+1) l s
def blockB (e:Int) (d:Nat) (stmt:M Int) (s:PS):R Int :=
 let at_:=hd e s.ts
 (withinS e d [123] [125] (stmtsS stmt []) s).bind fun l s=>putS ⟨6,0,at_,[],l⟩ s
def stmtB (e:Int) (d:Nat) (stmt:M Int) (s:PS):R Int :=
 let at_:=hd e s.ts
 match isS [105,102] s.ts with
 | true=>(exS e d (dropS s)).bind fun x s=>(blockB e d stmt s).bind fun a s=>match isS [101,108,115,101] s.ts with
  | true=>(blockB e d stmt (dropS s)).bind fun b s=>putS ⟨11,0,at_,[],[x,a,b]⟩ s
  | false=>(putS ⟨6,0,at_,[],[]⟩ s).bind fun b s=>putS ⟨11,0,at_,[],[x,a,b]⟩ s
 | false=>match isS [119,104,105,108,101] s.ts with
  | true=>(exS e d (dropS s)).bind fun x s=>(blockB e d stmt s).bind fun a s=>putS ⟨12,0,at_,[],[x,a]⟩ s
  | false=>match isS [116,114,121] s.ts with
   | true=>(blockB e d stmt (dropS s)).bind fun a s=>(wantS e [99,97,116,99,104] s).bind fun _ s=>(identS e s).bind fun t s =>
     (blockB e d stmt s).bind fun b s=>putS ⟨16,0,at_,t.tx,[a,b]⟩ s
   | false=>(plainS e d s).bind fun x s=>(wantS e [59] s).bind fun _ s=>.ok x s
def stmtS (e:Int):Nat→M Int
 | 0=>stmtB e 0 (fun _=>.bad 0 0)
 | d+1=>stmtB e (d+1) (stmtS e d)
def inStmtS (e:Int):Nat→M Int
 | 0=>fun _=>.bad 0 0
 | d+1=>stmtS e d
def typesS (ts:List Tok):Int :=
 match isS [105,110,116] ts with
 | true=>1
 | false=>match isS [98,111,111,108] ts with
  | true=>2
  | false=>match isS [97,114,114] ts with
   | true=>3
   | false=>match isS [102,117,110] ts with
    | true=>4
    | false=>0
def typedS (e:Int) (k at_:Int) (tx:Bs) (s:PS):R Int :=
 match typesS s.ts==0 with
 | true=>.bad (hd e s.ts) 2
 | false=>putS ⟨k,typesS s.ts,at_,tx,[]⟩ (dropS s)
def varsL (e:Int) (kind:Int):Nat→List Int→M (List Int)
 | 0,l,s=>.ok l s
 | n+1,l,s=>match isS [118,97,114] s.ts with
  | false=>.ok l s
  | true=>(identS e (dropS s)).bind fun t s'=>(typedS e kind (hd e s.ts) t.tx s').bind fun x s=>(wantS e [59] s).bind fun _ s=>varsL e kind n (l++[x]) s
def varsS (e:Int) (kind:Int) (s:PS):R (List Int):=varsL e kind s.ts.length [] s
def bodyS (e:Int) (d:Nat) (s:PS):R (List Int×Int) :=
 let at_:=hd e s.ts
 (withinS e d [123] [125] (fun s=>(varsS e 5 s).bind fun vs s=>(stmtsS (inStmtS e d) [] s).bind fun l s=>.ok (vs,l) s) s).bind fun p s =>
  (putS ⟨6,0,at_,[],p.2⟩ s).bind fun b s=>.ok (p.1,b) s
def paramS (e:Int):M Int:=fun s=>(identS e s).bind fun t s=>typedS e 4 t.at_ t.tx s
def procS (e:Int) (d:Nat) (s:PS):R Int :=
 let at_:=hd e s.ts
 (wantS e [112,114,111,99] s).bind fun _ s=>(identS e s).bind fun t s =>
  (withinS e d [40] [41] (listS (oneS (paramS e)) []) s).bind fun ps s =>
   let k:=typesS s.ts
   (bodyS e d (match decide (k>0) with
    | true=>dropS s
    | false=>s)).bind fun p s=>putS ⟨3,k,at_,t.tx,ps++p.1++[p.2]⟩ s
def procsL (e:Int) (d:Nat):Nat→List Int→M (List Int)
 | 0,l,s=>.ok l s
 | n+1,l,s=>match s.ts with
  | []=>.ok l s
  | _::_=>(procS e d s).bind fun x s=>procsL e d n (l++[x]) s
def programS (e:Int) (s:PS):R Int :=
 (varsS e 2 s).bind fun l s=>(procsL e 40 s.ts.length l s).bind fun l s=>putS ⟨1,0,0,[],l⟩ s
end Go.Ru
namespace Go.Ru
def kidsS (out:List Nat):List Int→Int→Nat→Option Nat
 | [],_,size=>some size
 | k::r,last,size=>match k==last&&decide (0≤k) with
  | true=>kidsS out r (k - (out.getD k.toNat 0:Nat)) (size+out.getD k.toNat 0)
  | false=>none
def sizesS:List Nd→List Nat→Option (List Nat)
 | [],out=>some out
 | n::r,out=>match kidsS out n.kids.reverse ((out.length:Int) - 1) 1 with
  | some c=>sizesS r (out++[c])
  | none=>none
def soundS (ns:List Nd) (root:Int):Bool :=
 !(ns.length==0 || decide (4000<ns.length) || root != (ns.length:Int) - 1) &&
 match sizesS ns [] with
 | some l=>l.getD root.toNat 0==ns.length
 | none=>false
def szOk (out:List Nat):Prop:=∀ i,i<out.length→1≤out.getD i 0∧out.getD i 0≤i+1
theorem kidsS_inv {out:List Nat} (ho:szOk out):∀ (l:List Int) (last:Int) (size:Nat) (c:Nat),last<out.length→-1≤last→(size:Int)=out.length - last→kidsS out l last size=some c→1≤c∧c≤out.length+1:=by
 intro l
 induction l with
 | nil=>intro last size c h1 h2 h3 h;simp only [kidsS,Option.some.injEq] at h;omega
 | cons k r ih =>
  intro last size c h1 h2 h3 h
  simp only [kidsS] at h
  split at h
  case h_2=>simp at h
  rename_i hb
  simp only [Bool.and_eq_true,beq_iff_eq,decide_eq_true_eq] at hb
  obtain⟨rfl,hk⟩:=hb
  have:=ho k.toNat (by omega)
  exact ih _ _ c (by omega) (by omega) (by omega) h
theorem szOk_snoc {out:List Nat} (ho:szOk out) {c:Nat} (h:1≤c∧c≤out.length+1):szOk (out++[c]):=by
 intro i hi
 by_cases e:i<out.length
 ·have h1:=ho i e
  rw [List.getD_eq_getElem?_getD,List.getElem?_append_left e,← List.getD_eq_getElem?_getD]
  exact h1
 ·have:i=out.length:=by simp at hi;omega
  subst this
  simpa using h
theorem kidsS_mem {out:List Nat} (ho:szOk out):∀ (l:List Int) (last:Int) (size:Nat) (c:Nat),last<out.length→kidsS out l last size=some c→∀ k∈l,0≤k∧k≤last:=by
 intro l
 induction l with
 | nil=>intro last size c _ _ k hk;simp at hk
 | cons k r ih =>
  intro last size c h1 h k' hk'
  simp only [kidsS] at h
  split at h
  case h_2=>simp at h
  rename_i hb
  simp only [Bool.and_eq_true,beq_iff_eq,decide_eq_true_eq] at hb
  obtain⟨rfl,hk⟩:=hb
  have:=ho k.toNat (by omega)
  rcases List.mem_cons.1 hk' with rfl|hk'
  ·exact⟨hk,Int.le_refl _⟩
  ·have:=ih _ _ c (by omega) h k' hk'
   omega
theorem sizesS_inv:∀ (r:List Nd) (out l:List Nat),szOk out→sizesS r out=some l→l.length=out.length+r.length∧szOk l∧∀ j,j<r.length→∀ k∈(r.getD j default).kids,0≤k∧k<(out.length+j:Nat):=by
 intro r
 induction r with
 | nil=>intro out l ho h;simp only [sizesS,Option.some.injEq] at h;subst h;exact⟨rfl,ho,fun j hj=>by simp at hj⟩
 | cons n r ih =>
  intro out l ho h
  simp only [sizesS] at h
  split at h
  case h_2=>simp at h
  rename_i c hc
  have hinv:=kidsS_inv ho _ _ _ c (by omega) (by omega) (by omega) hc
  have hm:=kidsS_mem ho _ _ _ c (by omega) hc
  obtain⟨h1,h2,h3⟩:=ih _ _ (szOk_snoc ho hinv) h
  refine⟨by rw [h1];simp;omega,h2,fun j hj k hk=>?_⟩
  cases j with
  | zero =>
   have:=hm k (by simpa using hk)
   omega
  | succ j =>
   have:=h3 j (by simpa using hj) k (by simpa using hk)
   simp at this
   omega
def deepS (ns:List Nd):Nat→Int→Nat
 | 0,_=>0
 | n+1,p=>(ns.getD p.toNat default).kids.foldl (fun d k=>max d (deepS ns n k)) 0+1
theorem deepS_le (ns:List Nd) (n:Nat) (p:Int):deepS ns n p≤n:=by
 induction n generalizing p with
 | zero=>exact Nat.le_refl _
 | succ n ih =>
  have:∀ (l:List Int) (d:Nat),d≤n→l.foldl (fun d k=>max d (deepS ns n k)) d≤n:=by
   intro l
   induction l with
   | nil=>intro d h;exact h
   | cons k l ihl=>intro d h;exact ihl _ (by have:=ih k;exact Nat.max_le.2 ⟨h,this⟩)
  have:=this (ns.getD p.toNat default).kids 0 (Nat.zero_le _)
  simp only [deepS];omega
def depthS (ns:List Nd) (root:Int):Nat:=match soundS ns root with
 | true=>deepS ns ns.length root
 | false=>0
theorem soundS_ok {ns:List Nd} {root:Int} (h:soundS ns root=true):0<ns.length∧ns.length≤4000∧root=(ns.length:Int) - 1∧∀ j,j<ns.length→∀ k∈(ns.getD j default).kids,0≤k∧k<(j:Int):=by
 simp only [soundS,Bool.and_eq_true,Bool.not_eq_true',Bool.or_eq_false_iff,beq_eq_false_iff_ne,decide_eq_false_iff_not,bne_eq_false_iff_eq] at h
 obtain⟨⟨⟨h1,h2⟩,h3⟩,h4⟩:=h
 split at h4
 case h_2=>simp at h4
 rename_i l hl
 obtain⟨_,_,h5⟩:=sizesS_inv ns [] l (fun i hi=>by simp at hi) hl
 exact⟨by omega,by omega,h3,fun j hj k hk=>by have:=h5 j hj k hk;simp at this;exact this⟩
end Go.Ru
namespace Go.Ru
open Go
def digitsT:Bs:=[48,49,50,51,52,53,54,55,56,57]
def partsT:Bs:=[97,98,99,100,101,102,103,104,105,106,107,108,109,110,111,112,113,114,115,116,117,118,119,120,121,122,65,66,67,68,69,70,71,72,73,74,75,76,77,78,79,80,81,82,83,84,85,86,87,88,89,90,95,48,49,50,51,52,53,54,55,56,57]
def blanksT:Bs:=[32,9,10]
def keptT:Bs:=[32,118,97,114,32,112,114,111,99,32,105,110,116,32,98,111,111,108,32,97,114,114,32,102,117,110,32,105,110,32,111,117,116,32,105,102,32,101,108,115,101,32,119,104,105,108,101,32,99,97,108,108,32,114,101,116,117,114,110,32,116,104,114,111,119,32,116,114,121,32,99,97,116,99,104,32,110,101,119,32,108,101,110,32,116,114,117,101,32,102,97,108,115,101,32]
def pairsT:Bs:=[32,61,61,32,33,61,32,60,61,32,62,61,32,38,38,32,124,124,32]
def singleT:Bs:=[40,41,123,125,91,93,44,59,61,60,62,43,45,42,47,37,33,38]
def inB (l:Bs) (c:UInt8):Bool:=decide (Lib.indexByte l c≥0)
def runS (l:Bs) (r:Bs):Nat:=(r.takeWhile (inB l)).length
def keptP (l:Bs):Bool:=!(l==[])&&(decide (Lib.indexByte l 32<0)&&Lib.contains keptT ([32]++l++[32]))
def identP (l:Bs):Bool:=!(l==[])&&(decide (l.length≤20)&&(l.all (inB partsT)&&(decide (Lib.indexByte digitsT (l.getD 0 0)<0)&&!keptP l)))
def numP (l:Bs):Option Int:=match Lib.atoiAll l with
 | .ok v=>if Lib.itoa v=l then some v else none
 | _=>none
def wordP (l:Bs):Option (TK×Int):=match keptP l with
 | true=>some (.word,0)
 | false=>match identP l with
  | true=>some (.name,0)
  | false=>match numP l with
   | some v=>some (.number,v)
   | none=>none
def pairP (l:Bs):Bool:=decide (l.length>1)&&(!(l.getD 0 0==32)&&(!(l.getD 1 0==32)&&Lib.contains pairsT ([32]++l.take 2++[32])))
def signP (l:Bs):Nat:=if pairP l then 2 else if inB singleT (l.getD 0 0) then 1 else 0
inductive CR where
 | ok (l:List Tok)
 | bad (at_:Nat)
def CR.cons (t:Tok):CR→CR
 | .ok l=>.ok (t::l)
 | .bad a=>.bad a
def cutS:Nat→Bs→Nat→CR
 | 0,_,_=>.ok []
 | n+1,r,i=>match r with
  | []=>.ok []
  | c::r'=>if 0<runS blanksT r then cutS n (r.drop (runS blanksT r)) (i+runS blanksT r)
   else if c=35 then cutS n (r.dropWhile (fun c=>!(c==10))) (i+(r.takeWhile (fun c=>!(c==10))).length)
   else if 0<runS partsT r then match wordP (r.take (runS partsT r)) with
    | none=>.bad i
    | some (k,v)=>(cutS n (r.drop (runS partsT r)) (i+runS partsT r)).cons ⟨k,v,i,r.take (runS partsT r)⟩
   else match signP r with
    | 0=>.bad i
    | m+1=>(cutS n (r.drop (m+1)) (i+(m+1))).cons ⟨.sign,0,i,r.take (m+1)⟩
def cutT (s:Bs):CR:=cutS s.length s 0
end Go.Ru
namespace Go.Ru
open Go
def signsT:Bs:=[32,43,32,45,32,42,32,47,32,37,32,61,61,32,33,61,32,60,32,60,61,32,62,32,62,61,32,38,38,32,124,124,32]
def signedP (l:Bs):Bool:=!(l==[])&&(decide (Lib.indexByte l 32<0)&&Lib.contains signsT ([32]++l++[32]))
def textS (k:Int) (l:Bs):Bool :=
 if k=1∨k=6∨k=10∨k=11∨k=12∨k=14∨k=15∨k=20∨k=21 then l==[]
 else if k=13 then l==[] || identP l
 else if k=26 then l==[45] || l==[33]
 else if k=27 then signedP l
 else identP l
def numberS (k n:Int):Bool :=
 if k=2∨k=4∨k=5 then decide (n≥1)&&decide (n≤4)
 else if k=3 then decide (n≥0)&&decide (n≤4)
 else if k=20 then decide (n≥0)
 else if k=21 then n==0 || n==1
 else n==0
def stB (k:Int):Bool:=decide (k≥7)&&decide (k≤17)
def exB (k:Int):Bool:=decide (k≥20)&&decide (k≤27)
def kindsS (ns:List Nd) (n:Nd):List Int:=n.kids.map fun q=>(ns.getD q.toNat default).k
def cntS (p:Int→Bool):Nat→List Int→Nat
 | 0,_=>0
 | _+1,[]=>0
 | m+1,a::l=>match p a with
  | true=>cntS p m l+1
  | false=>0
theorem cnt_t {p:Int→Bool} {m:Nat} {a:Int} {l:List Int} (h:p a=true):cntS p (m+1) (a::l)=cntS p m l+1:=by simp [cntS,h]
theorem cnt_f {p:Int→Bool} {m:Nat} {a:Int} {l:List Int} (h:p a=false):cntS p (m+1) (a::l)=0:=by simp [cntS,h]
def kidsOkS (k:Int) (l:List Int):Bool :=
 let is (c:Int):Int→Bool:=fun k=>k==c
 let a (p:Int→Bool) (m:Nat) (i:Nat):Nat:=cntS p m (l.drop i)
 let e (i:Nat):Bool:=((i:Int)==(l.length:Int))
 if k=1 then let i:=a (is 2) 4000 0;let i:=i+a (is 3) 4000 i;e i
 else if k=3 then let i:=a (is 4) 4000 0;let i:=i+a (is 5) 4000 i;let c:=a (is 6) 1 i;c==1&&e (i+c)
 else if k=6 then e (a stB 4000 0)
 else if k=7∨k=17∨k=15∨k=23∨k=26 then let c:=a exB 1 0;c==1&&e c
 else if k=8∨k=27 then let c:=a exB 2 0;c==2&&e c
 else if k=9 then let c:=a (is 18) 1 0;c==1&&e c
 else if k=10 then let c:=a (is 18) 1 0;c==1&&(let d:=a exB 1 c;d==1&&e (c+d))
 else if k=11 then let c:=a exB 1 0;c==1&&(let d:=a (is 6) 2 c;d==2&&e (c+d))
 else if k=12 then let c:=a exB 1 0;c==1&&(let d:=a (is 6) 1 c;d==1&&e (c+d))
 else if k=13 then let c:=a (is 19) 1 0;let d:=a exB 4000 c;c==1&&e (c+d)
 else if k=14 then e (a exB 1 0)
 else if k=16 then let c:=a (is 6) 2 0;c==2&&e c
 else e 0
def nodeOkS (ns:List Nd) (n:Nd):Bool:=decide (1≤n.k)&&decide (n.k≤27)&&textS n.k n.tx&&numberS n.k n.n&&kidsOkS n.k (kindsS ns n)
def rightS (ns:List Nd) (root:Int):Bool:=soundS ns root&&decide (depthS ns root≤40)&&((ns.getD root.toNat default).k==1)&&ns.all (nodeOkS ns)
theorem kidsS_many {out:List Nat} (ho:szOk out):∀ (l:List Int) (last:Int) (size c:Nat),last<out.length→kidsS out l last size=some c→size+l.length≤c:=by
 intro l
 induction l with
 | nil=>intro last size c _ h;simp only [kidsS,Option.some.injEq] at h;simp;omega
 | cons k r ih =>
  intro last size c h1 h
  simp only [kidsS] at h
  split at h
  case h_2=>simp at h
  rename_i hb
  simp only [Bool.and_eq_true,beq_iff_eq,decide_eq_true_eq] at hb
  obtain⟨rfl,hk⟩:=hb
  have:=ho k.toNat (by omega)
  have:=ih _ _ c (by omega) h
  simp only [List.length_cons];omega
theorem sizesS_many:∀ (r:List Nd) (out l:List Nat),szOk out→sizesS r out=some l→∀ j,j<r.length→(r.getD j default).kids.length≤out.length+j:=by
 intro r
 induction r with
 | nil=>intro out l ho h j hj;simp at hj
 | cons n r ih =>
  intro out l ho h j hj
  simp only [sizesS] at h
  split at h
  case h_2=>simp at h
  rename_i c hc
  have hinv:=kidsS_inv ho _ _ _ c (by omega) (by omega) (by omega) hc
  have hm:=kidsS_many ho _ _ _ c (by omega) hc
  cases j with
  | zero=>simp at hm ⊢;omega
  | succ j =>
   have:=ih _ _ (szOk_snoc ho hinv) h j (by simpa using hj)
   simp at this ⊢;omega
theorem soundS_many {ns:List Nd} {root:Int} (h:soundS ns root=true):∀ j,j<ns.length→(ns.getD j default).kids.length≤j:=by
 simp only [soundS,Bool.and_eq_true] at h
 obtain⟨_,h4⟩:=h
 split at h4
 case h_2=>simp at h4
 rename_i l hl
 intro j hj
 have:=sizesS_many ns [] l (fun i hi=>by simp at hi) hl j hj
 simpa using this
end Go.Ru
namespace Go.Ru
def nd (ns:List Nd) (i:Nat):Nd:=ns.getD i default
theorem nd_zero (n:Nd) (r:List Nd):nd (n::r) 0=n:=rfl
theorem nd_succ (n:Nd) (r:List Nd) (j:Nat):nd (n::r) (j+1)=nd r j:=rfl
def setF (f:Nat→Int) (k:Nat) (v:Int) (j:Nat):Int:=if j=k then v else f j
def parKids (i:Nat):List Int→(Nat→Int)→Nat→Int
 | [],f=>f
 | k::r,f=>parKids i r (setF f k.toNat (i:Int))
def parNs:Nat→List Nd→(Nat→Int)→Nat→Int
 | _,[],f=>f
 | i,n::r,f=>parNs (i+1) r (parKids i n.kids f)
def parF (ns:List Nd) (root:Int):Nat→Int:=parNs 0 ns (setF (fun _=>0) root.toNat (-1))
theorem parKids_no {i:Nat} {l:List Int} {f:Nat→Int} {x:Nat} (h:∀ k∈l,k.toNat≠x):parKids i l f x=f x:=by
 induction l generalizing f with
 | nil=>rfl
 | cons k r ih =>
  have h1:k.toNat≠x:=h k (by simp)
  simp only [parKids]
  rw [ih (fun k hk=>h k (by simp [hk]))]
  simp only [setF]
  rw [if_neg (fun e=>h1 e.symm)]
theorem parKids_yes {i:Nat} {l:List Int} {f:Nat→Int} {x:Nat} (h:∃ k∈l,k.toNat=x):parKids i l f x=(i:Int):=by
 induction l generalizing f with
 | nil=>obtain⟨k,hk,_⟩:=h;simp at hk
 | cons k r ih =>
  simp only [parKids]
  by_cases h2:∃ k∈r,k.toNat=x
  ·exact ih h2
  ·rw [parKids_no (fun k hk e=>h2 ⟨k,hk,e⟩)]
   obtain⟨k',hk',e⟩:=h
   rcases List.mem_cons.1 hk' with rfl|hk'
   ·simp [setF,e]
   ·exact absurd ⟨k',hk',e⟩ h2
theorem parNs_no {i:Nat} {l:List Nd} {f:Nat→Int} {x:Nat} (h:∀ n∈l,∀ k∈n.kids,k.toNat≠x):parNs i l f x=f x:=by
 induction l generalizing f i with
 | nil=>rfl
 | cons n r ih =>
  simp only [parNs]
  rw [ih (fun n hn=>h n (by simp [hn])),parKids_no (h n (by simp))]
theorem parNs_yes {i:Nat} {l:List Nd} {f:Nat→Int} {x j:Nat} (hj:j<l.length) (h:∃ k∈(nd l j).kids,k.toNat=x)
  (hn:∀ j',j<j'→j'<l.length→∀ k∈(nd l j').kids,k.toNat≠x):parNs i l f x=((i+j:Nat):Int):=by
 induction l generalizing f i j with
 | nil=>simp at hj
 | cons n r ih =>
  simp only [parNs]
  cases j with
  | zero =>
   rw [parNs_no,parKids_yes (by simpa [nd_zero] using h)]
   ·rfl
   ·intro n' hn' k hk
    obtain⟨q,hq,rfl⟩:=List.mem_iff_getElem.1 hn'
    refine hn (q+1) (by omega) (by simpa using hq) k ?_
    simpa [nd,hq] using hk
  | succ j =>
   rw [ih (j:=j) (by simpa using hj) (by simpa [nd_succ] using h) (fun j' h1 h2=>by
    have:=hn (j'+1) (by omega) (by simpa using h2)
    simpa [nd_succ] using this)]
   congr 1;omega
def szOf (ns:List Nd):List Nat:=match sizesS ns [] with
 | some l=>l
 | none=>[]
theorem sizesS_each:∀ (r:List Nd) (out l:List Nat),sizesS r out=some l→l.take out.length=out∧∀ j,j<r.length→kidsS (l.take (out.length+j)) (nd r j).kids.reverse (((out.length+j:Nat):Int) - 1) 1=some (l.getD (out.length+j) 0):=by
 intro r
 induction r with
 | nil=>intro out l h;simp only [sizesS,Option.some.injEq] at h;subst h;exact⟨by simp,fun j hj=>by simp at hj⟩
 | cons n r ih =>
  intro out l h
  simp only [sizesS] at h
  split at h
  case h_2=>simp at h
  rename_i c hc
  obtain⟨h1,h2⟩:=ih _ _ h
  simp only [List.length_append,List.length_cons,List.length_nil,Nat.zero_add] at h1 h2
  have h3:l.take out.length=out:=by
   have:(l.take (out.length+1)).take out.length=(out++[c]).take out.length:=by rw [h1]
   rw [List.take_take,Nat.min_eq_left (by omega)] at this
   simpa using this
  refine⟨h3,fun j hj=>?_⟩
  cases j with
  | zero =>
   have h4:l.getD out.length 0=c:=by
    have h5:(l.take (out.length+1))[out.length]?=some c:=by rw [h1];simp
    rw [List.getElem?_take] at h5
    simp only [Nat.lt_succ_self,if_true] at h5
    rw [List.getD_eq_getElem?_getD,h5];rfl
   simp only [Nat.add_zero,nd_zero,h3,h4]
   exact hc
  | succ j =>
   have:=h2 j (by simpa using hj)
   simp only [nd_succ] at this ⊢
   rw [show out.length+(j+1)=out.length+1+j by omega]
   exact this
theorem kidsS_tile {out:List Nat}:∀ (ks:List Int) (last:Int) (size c:Nat),kidsS out ks last size=some c →
  size≤c∧(∀ x:Int,last - (c - size:Nat)<x→x≤last→∃ k∈ks,0≤k∧k - (out.getD k.toNat 0:Nat)<x∧x≤k) ∧
  (∀ k∈ks,0≤k∧k≤last∧last - (c - size:Nat)≤k - (out.getD k.toNat 0:Nat)) ∧
  (∀ k∈ks,∀ k'∈ks,k<k'→k≤k' - (out.getD k'.toNat 0:Nat)):=by
 intro ks
 induction ks with
 | nil =>
  intro last size c h
  simp only [kidsS,Option.some.injEq] at h
  subst h
  refine⟨Nat.le_refl _,fun x h1 h2=>by simp at h1;omega,fun k hk=>by simp at hk,fun k hk=>by simp at hk⟩
 | cons q r ih =>
  intro last size c h
  simp only [kidsS] at h
  split at h
  case h_2=>simp at h
  rename_i hb
  simp only [Bool.and_eq_true,beq_iff_eq,decide_eq_true_eq] at hb
  obtain⟨rfl,hq⟩:=hb
  obtain⟨h1,h2,h3,h4⟩:=ih _ _ c h
  generalize hs:out.getD q.toNat 0=s at *
  refine⟨by omega,fun x hx1 hx2=>?_,fun k hk=>?_,fun k hk k' hk' hlt=>?_⟩
  ·by_cases hx:q - (s:Int)<x
   ·exact⟨q,by simp,hq,by rw [hs];exact hx,hx2⟩
   ·obtain⟨k,hk,h5⟩:=h2 x (by omega) (by omega)
    exact⟨k,by simp [hk],h5⟩
  ·rcases List.mem_cons.1 hk with rfl|hk
   ·rw [hs];omega
   ·have:=h3 k hk
    omega
  ·rcases List.mem_cons.1 hk' with rfl|m'
   ·rcases List.mem_cons.1 hk with rfl|m
    ·omega
    ·have:=h3 k m
     rw [hs];omega
   ·rcases List.mem_cons.1 hk with rfl|m
    ·have:=h3 k' m'
     omega
    ·exact h4 k m k' m' hlt
def lowS (ns:List Nd) (j:Nat):Int:=(j:Int) - ((szOf ns).getD j 0:Nat)
structure Std (ns:List Nd) (root:Int):Prop where
 pos:0<ns.length
 len:ns.length≤4000
 rt:root=(ns.length:Int) - 1
 low:lowS ns (ns.length - 1)=-1
 self:∀ j,j<ns.length→-1≤lowS ns j∧lowS ns j<j
 kid:∀ j,j<ns.length→∀ k∈(nd ns j).kids,0≤k∧k<(j:Int)∧lowS ns j≤lowS ns k.toNat
 tile:∀ j,j<ns.length→∀ x:Int,lowS ns j<x→x<j→∃ k∈(nd ns j).kids,0≤k∧lowS ns k.toNat<x∧x≤k
 apart:∀ j,j<ns.length→∀ k∈(nd ns j).kids,∀ k'∈(nd ns j).kids,k<k'→k≤lowS ns k'.toNat
 many:∀ j,j<ns.length→(nd ns j).kids.length≤j
 none:∀ j,j<ns.length→(nd ns j).kids=[]→lowS ns j=(j:Int) - 1
theorem std_of {ns:List Nd} {root:Int} (h:soundS ns root=true):Std ns root:=by
 obtain⟨g1,g2,g3,g4⟩:=soundS_ok h
 have hm:=soundS_many h
 simp only [soundS,Bool.and_eq_true] at h
 obtain⟨_,h4⟩:=h
 split at h4
 case h_2=>simp at h4
 rename_i l hl
 obtain⟨hlen,hok,_⟩:=sizesS_inv ns [] l (fun i hi=>by simp at hi) hl
 obtain⟨_,he⟩:=sizesS_each ns [] l hl
 simp only [List.length_nil,Nat.zero_add] at hlen he
 have hsz:szOf ns=l:=by simp [szOf,hl]
 have hge:∀ (j:Nat) (k:Int),0≤k→k<(j:Int)→(l.take j).getD k.toNat 0=l.getD k.toNat 0:=fun j k h1 h2=>by
  rw [List.getD_eq_getElem?_getD,List.getElem?_take,if_pos (by omega),List.getD_eq_getElem?_getD]
 have hlow:∀ j:Nat,lowS ns j=(j:Int) - (l.getD j 0:Nat):=fun j=>by simp [lowS,hsz]
 have hkd:∀ j,j<ns.length→∀ k∈(nd ns j).kids,0≤k∧k<(j:Int):=fun j hj k hk=>g4 j hj k hk
 have ht:∀ j,j<ns.length→_:=fun j hj=>kidsS_tile _ _ _ _ (he j hj)
 refine⟨g1,g2,g3,?_,fun j hj=>?_,fun j hj k hk=>?_,fun j hj x h1 h2=>?_,fun j hj k hk k' hk' hlt=>?_,hm,fun j hj h0=>?_⟩
 ·rw [hlow]
  have h5:=beq_iff_eq.1 h4
  rw [g3,show ((ns.length:Int) - 1).toNat=ns.length - 1 by omega] at h5
  rw [h5];omega
 ·have:=hok j (by omega)
  rw [hlow];omega
 ·obtain⟨h1,h2⟩:=hkd j hj k hk
  obtain⟨t1,_,t3,_⟩:=ht j hj
  have:=t3 k (by simpa using hk)
  rw [hge j k h1 h2] at this
  rw [hlow,hlow]
  refine⟨h1,h2,?_⟩
  have h6:((k.toNat:Nat):Int)=k:=by omega
  have:=hok j (by omega)
  rw [h6];omega
 ·obtain⟨t1,t2,_,_⟩:=ht j hj
  have h7:=hok j (by omega)
  obtain⟨k,hk,h3,h5,h6⟩:=t2 x (by rw [hlow] at h1;omega) (by omega)
  have hk:k∈(nd ns j).kids:=by simpa using hk
  obtain⟨h8,h9⟩:=hkd j hj k hk
  rw [hge j k h8 h9] at h5
  refine⟨k,hk,h3,?_,h6⟩
  rw [hlow];omega
 ·obtain⟨_,_,_,t4⟩:=ht j hj
  obtain⟨h8,h9⟩:=hkd j hj k' hk'
  have:=t4 k (by simpa using hk) k' (by simpa using hk') hlt
  rw [hge j k' h8 h9] at this
  rw [hlow];omega
 ·have:=he j hj
  rw [h0] at this
  simp only [List.reverse_nil,kidsS,Option.some.injEq] at this
  rw [hlow,← this];omega
theorem Std.up {ns:List Nd} {root:Int} (h:Std ns root):∀ j,j<ns.length→∀ x:Nat,lowS ns j<x→x<j→∃ p,x<p∧p≤j∧(x:Int)∈(nd ns p).kids:=by
 intro j
 induction j using Nat.strongRecOn with
 | _ j ih =>
  intro hj x h1 h2
  obtain⟨k,hk,h3,h4,h5⟩:=h.tile j hj x h1 (by omega)
  obtain⟨h6,h7,_⟩:=h.kid j hj k hk
  by_cases e:(x:Int)=k
  ·exact⟨j,h2,Nat.le_refl _,e▸hk⟩
  ·obtain⟨p,p1,p2,p3⟩:=ih k.toNat (by omega) (by omega) x h4 (by omega)
   exact⟨p,p1,by omega,p3⟩
theorem Std.above {ns:List Nd} {root:Int} (h:Std ns root) (x:Nat) (hx:(x:Int)<root):∃ p,x<p∧p<ns.length∧(x:Int)∈(nd ns p).kids:=by
 have h1:=h.rt
 have h2:=h.pos
 obtain⟨p,h3,h4,h5⟩:=h.up (ns.length - 1) (by omega) x (by rw [h.low];omega) (by omega)
 exact⟨p,h3,by omega,h5⟩
theorem Std.nest {ns:List Nd} {root:Int} (h:Std ns root):∀ j,j<ns.length→∀ x:Nat,lowS ns j<x→x≤j→lowS ns j≤lowS ns x:=by
 intro j
 induction j using Nat.strongRecOn with
 | _ j ih =>
  intro hj x h1 h2
  by_cases e:x=j
  ·subst e;exact Int.le_refl _
  ·obtain⟨k,hk,h3,h4,h5⟩:=h.tile j hj x h1 (by omega)
   obtain⟨h6,h7,h8⟩:=h.kid j hj k hk
   have:=ih k.toNat (by omega) (by omega) x h4 (by omega)
   omega
theorem Std.uniq {ns:List Nd} {root:Int} (h:Std ns root) {i j:Nat} (hi:i<ns.length) (hj:j<ns.length) {x:Int} (h1:x∈(nd ns i).kids) (h2:x∈(nd ns j).kids):i=j:=by
 have key:∀ i j:Nat,i<ns.length→j<ns.length→x∈(nd ns i).kids→x∈(nd ns j).kids→¬ i<j:=by
  intro i j hi hj h1 h2 hlt
  obtain⟨a1,a2,a3⟩:=h.kid i hi x h1
  obtain⟨b1,b2,b3⟩:=h.kid j hj x h2
  have a4:=(h.self x.toNat (by omega)).2
  obtain⟨k,hk,c1,c2,c3⟩:=h.tile j hj i (by omega) (by omega)
  obtain⟨d1,d2,d3⟩:=h.kid j hj k hk
  have e1:=h.nest k.toNat (by omega) i c2 (by omega)
  have e2:=h.apart j hj x h2 k hk (by omega)
  omega
 have n1:=key i j hi hj h1 h2
 have n2:=key j i hj hi h2 h1
 omega
theorem Std.par_kid {ns:List Nd} {root:Int} (h:Std ns root) {i:Nat} (hi:i<ns.length) {k:Int} (hk:k∈(nd ns i).kids):parF ns root k.toNat=(i:Int):=by
 unfold parF
 rw [parNs_yes (j:=i) hi ⟨k,hk,rfl⟩,Nat.zero_add]
 intro j' h1 h2 k' hk' e
 obtain⟨a1,a2,_⟩:=h.kid i hi k hk
 obtain⟨b1,b2,_⟩:=h.kid j' h2 k' hk'
 have:k'=k:=by omega
 subst this
 have:=h.uniq hi h2 hk hk'
 omega
theorem Std.par_up {ns:List Nd} {root:Int} (h:Std ns root) (x:Nat) (hx:(x:Int)<root):∃ p,x<p∧p<ns.length∧(x:Int)∈(nd ns p).kids∧parF ns root x=(p:Int):=by
 obtain⟨p,h1,h2,h3⟩:=h.above x hx
 exact⟨p,h1,h2,h3,by have:=h.par_kid h2 h3;simpa using this⟩
def ownF (ns:List Nd) (root:Int):Nat→Nat→Int
 | 0,_=>-1
 | m+1,i=>if (nd ns i).k=3 then (i:Int) else if (i:Int)=root then -1 else ownF ns root m (parF ns root i).toNat
def own (ns:List Nd) (root:Int) (i:Nat):Int:=ownF ns root (ns.length - i) i
theorem ownF_more {ns:List Nd} {root:Int} (h:Std ns root):∀ (m m' i:Nat),i<ns.length→ns.length - i≤m→ns.length - i≤m'→ownF ns root m i=ownF ns root m' i:=by
 intro m
 induction m with
 | zero=>intro m' i hi h1;omega
 | succ m ih =>
  intro m' i hi h1 h2
  cases m' with
  | zero=>omega
  | succ m' =>
   simp only [ownF]
   split
   ·rfl
   split
   ·rfl
   rename_i _ hr
   obtain⟨p,p1,p2,_,p4⟩:=h.par_up i (by have:=h.rt;omega)
   rw [p4]
   exact ih _ _ (by omega) (by omega) (by omega)
theorem own_eq {ns:List Nd} {root:Int} (h:Std ns root) {i:Nat} (hi:i<ns.length) :
  own ns root i=if (nd ns i).k=3 then (i:Int) else if (i:Int)=root then -1 else own ns root (parF ns root i).toNat:=by
 unfold own
 obtain⟨m,hm⟩:∃ m,ns.length - i=m+1:=⟨ns.length - i - 1,by omega⟩
 rw [hm]
 simp only [ownF]
 split
 ·rfl
 split
 ·rfl
 rename_i _ hr
 obtain⟨p,p1,p2,_,p4⟩:=h.par_up i (by have:=h.rt;omega)
 rw [p4]
 exact ownF_more h _ _ _ (by omega) (by omega) (by omega)
theorem own_range {ns:List Nd} {root:Int} (h:Std ns root):∀ {i:Nat},i<ns.length→own ns root i=-1∨((i:Int)≤own ns root i∧own ns root i<ns.length∧(nd ns (own ns root i).toNat).k=3):=by
 have key:∀ m i,i<ns.length→ns.length - i≤m→own ns root i=-1∨((i:Int)≤own ns root i∧own ns root i<ns.length∧(nd ns (own ns root i).toNat).k=3):=by
  intro m
  induction m with
  | zero=>intro i hi h1;omega
  | succ m ih =>
   intro i hi h1
   rw [own_eq h hi]
   split
   ·rename_i h3;exact .inr ⟨Int.le_refl _,by omega,by simpa using h3⟩
   split
   ·exact .inl rfl
   rename_i _ hr
   obtain⟨p,p1,p2,_,p4⟩:=h.par_up i (by have:=h.rt;omega)
   rw [p4]
   rcases ih p p2 (by omega) with e|⟨e1,e2,e3⟩
   ·exact .inl (by simpa using e)
   ·exact .inr ⟨by simp only [Int.toNat_natCast];omega,by simpa using e2,by simpa using e3⟩
 exact fun {i} hi=>key _ i hi (Nat.le_refl _)
theorem own_kid {ns:List Nd} {root:Int} (h:Std ns root) {i:Nat} (hi:i<ns.length) {k:Int} (hk:k∈(nd ns i).kids) (h3:(nd ns k.toNat).k≠3):own ns root k.toNat=own ns root i:=by
 obtain⟨a1,a2,_⟩:=h.kid i hi k hk
 have:=h.rt
 rw [own_eq h (by omega:k.toNat<ns.length),if_neg h3,if_neg (by omega),h.par_kid hi hk]
 rfl
end Go.Ru
namespace Go.Ru
theorem cnt_le3 (p:Int→Bool):∀ (m:Nat) (l:List Int),cntS p m l≤l.length∧cntS p m l≤m∧∀ x∈l.take (cntS p m l),p x=true:=by
 intro m
 induction m with
 | zero=>intro l;simp [cntS]
 | succ m ih =>
  intro l
  cases l with
  | nil=>simp [cntS]
  | cons a l =>
   cases h:p a with
   | false=>rw [cnt_f h];simp
   | true =>
    rw [cnt_t h]
    obtain⟨h1,h2,h3⟩:=ih l
    refine⟨by simp;omega,by omega,fun x hx=>?_⟩
    rw [List.take_succ_cons] at hx
    rcases List.mem_cons.1 hx with rfl|hx
    ·exact h
    ·exact h3 x hx
def ShapeOf (k:Int) (l:List Int):Prop :=
 if k=1 then ∃ a b,l=a++b∧(∀ x∈a,x=2)∧(∀ x∈b,x=3)
 else if k=3 then ∃ a b,l=a++b++[6]∧(∀ x∈a,x=4)∧(∀ x∈b,x=5)
 else if k=6 then ∀ x∈l,stB x=true
 else if k=7∨k=17∨k=15∨k=23∨k=26 then ∃ a,l=[a]∧exB a=true
 else if k=8∨k=27 then ∃ a b,l=[a,b]∧exB a=true∧exB b=true
 else if k=9 then l=[18]
 else if k=10 then ∃ a,l=[18,a]∧exB a=true
 else if k=11 then ∃ a,l=[a,6,6]∧exB a=true
 else if k=12 then ∃ a,l=[a,6]∧exB a=true
 else if k=13 then ∃ a,l=19::a∧∀ x∈a,exB x=true
 else if k=14 then l=[]∨∃ a,l=[a]∧exB a=true
 else if k=16 then l=[6,6]
 else l=[]
theorem cnt_split {p q:Int→Bool} {m m':Nat} {l:List Int} (h:cntS p m l+cntS q m' (l.drop (cntS p m l))=l.length) :
  ∃ a b,l=a++b∧(∀ x∈a,p x=true)∧(∀ x∈b,q x=true):=by
 obtain⟨h1,_,h3⟩:=cnt_le3 p m l
 obtain⟨h4,_,h6⟩:=cnt_le3 q m' (l.drop (cntS p m l))
 refine⟨_,_,(List.take_append_drop (cntS p m l) l).symm,h3,?_⟩
 rw [List.take_of_length_le (by rw [List.length_drop];omega)] at h6
 exact h6
theorem shape_of {k:Int} {l:List Int} (h:kidsOkS k l=true):ShapeOf k l:=by
 have is2:∀ {c:Int} {x:Int},(x==c)=true→x=c:=fun h=>by simpa using h
 unfold kidsOkS at h
 extract_lets at h
 unfold ShapeOf
 by_cases h1:k=1
 ·rw [if_pos h1]
  rw [if_pos h1] at h
  simp (config:={zetaDelta:=true}) only [List.drop_zero,Nat.zero_add,beq_iff_eq] at h
  obtain⟨x,y,h2,h3,h4⟩:=cnt_split (p:=fun k=>k==2) (q:=fun k=>k==3) (m:=4000) (m':=4000) (l:=l) (by omega)
  exact⟨x,y,h2,fun x hx=>is2 (h3 x hx),fun x hx=>is2 (h4 x hx)⟩
 rw [if_neg h1] at h ⊢
 by_cases h2:k=3
 ·rw [if_pos h2]
  rw [if_pos h2] at h
  simp (config:={zetaDelta:=true}) only [List.drop_zero,Nat.zero_add,Bool.and_eq_true,beq_iff_eq] at h
  obtain⟨g1,g2⟩:=h
  obtain⟨a1,_,a3⟩:=cnt_le3 (fun k=>k==4) 4000 l
  generalize hi:cntS (fun k=>k==4) 4000 l=i at *
  obtain⟨b1,_,b3⟩:=cnt_le3 (fun k=>k==5) 4000 (l.drop i)
  generalize hj:cntS (fun k=>k==5) 4000 (l.drop i)=j at *
  obtain⟨c1,_,c3⟩:=cnt_le3 (fun k=>k==6) 1 (l.drop (i+j))
  rw [g1] at c1 c3 g2
  rw [List.length_drop] at b1 c1
  have e1:l.drop (i+j)=[6]:=by
   have:(l.drop (i+j)).length=1:=by rw [List.length_drop];omega
   match hl:l.drop (i+j),this with
   | [x],_ =>
    rw [hl] at c3
    have:=is2 (c3 x (by simp))
    rw [this]
  refine⟨l.take i,(l.drop i).take j,?_,fun x hx=>is2 (a3 x hx),fun x hx=>is2 (b3 x hx)⟩
  rw [← e1,List.append_assoc,← List.drop_drop,List.take_append_drop,List.take_append_drop]
 rw [if_neg h2] at h ⊢
 by_cases h3:k=6
 ·rw [if_pos h3]
  rw [if_pos h3] at h
  simp (config:={zetaDelta:=true}) only [List.drop_zero] at h
  obtain⟨a1,_,a3⟩:=cnt_le3 stB 4000 l
  simp only [beq_iff_eq] at h
  rw [List.take_of_length_le (by omega)] at a3
  exact a3
 rw [if_neg h3] at h ⊢
 have one:∀ {p:Int→Bool} {l:List Int},cntS p 1 l=1→∃ a r,l=a::r∧p a=true:=fun {p l} h=>by
  cases l with
  | nil=>simp [cntS] at h
  | cons a r =>
   cases hp:p a with
   | false=>rw [cnt_f hp] at h;cases h
   | true=>exact⟨a,r,rfl,hp⟩
 have dos:∀ {p:Int→Bool} {l:List Int},cntS p 2 l=2→∃ a b r,l=a::b::r∧p a=true∧p b=true:=fun {p l} h=>by
  cases l with
  | nil=>simp [cntS] at h
  | cons a r =>
   cases hp:p a with
   | false=>rw [cnt_f hp] at h;cases h
   | true =>
    rw [cnt_t hp] at h
    obtain⟨b,r,rfl,hb⟩:=one (by omega:cntS p 1 r=1)
    exact⟨a,b,r,rfl,hp,hb⟩
 have nil:∀ {r:List Int},r.length=0→r=[]:=fun {r} h=>List.length_eq_zero_iff.1 h
 by_cases h4:k=7∨k=17∨k=15∨k=23∨k=26
 ·rw [if_pos h4]
  rw [if_pos h4] at h
  simp (config:={zetaDelta:=true}) only [List.drop_zero,Nat.zero_add,Bool.and_eq_true,beq_iff_eq] at h
  obtain⟨g1,g2⟩:=h
  obtain⟨a,r,rfl,ha⟩:=one g1
  rw [g1] at g2
  have:=nil (r:=r) (by simp only [List.length_cons] at g2;omega)
  subst this
  exact⟨a,rfl,ha⟩
 rw [if_neg h4] at h ⊢
 by_cases h5:k=8∨k=27
 ·rw [if_pos h5]
  rw [if_pos h5] at h
  simp (config:={zetaDelta:=true}) only [List.drop_zero,Nat.zero_add,Bool.and_eq_true,beq_iff_eq] at h
  obtain⟨g1,g2⟩:=h
  obtain⟨a,b,r,rfl,ha,hb⟩:=dos g1
  rw [g1] at g2
  have:=nil (r:=r) (by simp only [List.length_cons] at g2;omega)
  subst this
  exact⟨a,b,rfl,ha,hb⟩
 rw [if_neg h5] at h ⊢
 by_cases h6:k=9
 ·rw [if_pos h6]
  rw [if_pos h6] at h
  simp (config:={zetaDelta:=true}) only [List.drop_zero,Nat.zero_add,Bool.and_eq_true,beq_iff_eq] at h
  obtain⟨g1,g2⟩:=h
  obtain⟨a,r,rfl,ha⟩:=one g1
  rw [g1] at g2
  have:=nil (r:=r) (by simp only [List.length_cons] at g2;omega)
  subst this
  rw [is2 ha]
 rw [if_neg h6] at h ⊢
 by_cases h7:k=10
 ·rw [if_pos h7]
  rw [if_pos h7] at h
  simp (config:={zetaDelta:=true}) only [List.drop_zero,Nat.zero_add,Bool.and_eq_true,beq_iff_eq] at h
  obtain⟨g1,g2,g3⟩:=h
  obtain⟨a,r,rfl,ha⟩:=one g1
  rw [g1] at g2 g3
  simp only [List.drop_succ_cons,List.drop_zero] at g2 g3
  obtain⟨b,r,rfl,hb⟩:=one g2
  rw [g2] at g3
  have:=nil (r:=r) (by simp only [List.length_cons] at g3;omega)
  subst this
  exact⟨b,by rw [is2 ha],hb⟩
 rw [if_neg h7] at h ⊢
 by_cases h8:k=11
 ·rw [if_pos h8]
  rw [if_pos h8] at h
  simp (config:={zetaDelta:=true}) only [List.drop_zero,Nat.zero_add,Bool.and_eq_true,beq_iff_eq] at h
  obtain⟨g1,g2,g3⟩:=h
  obtain⟨a,r,rfl,ha⟩:=one g1
  rw [g1] at g2 g3
  simp only [List.drop_succ_cons,List.drop_zero] at g2 g3
  obtain⟨b,c,r,rfl,hb,hc⟩:=dos g2
  rw [g2] at g3
  have:=nil (r:=r) (by simp only [List.length_cons] at g3;omega)
  subst this
  exact⟨a,by rw [is2 hb,is2 hc],ha⟩
 rw [if_neg h8] at h ⊢
 by_cases h9:k=12
 ·rw [if_pos h9]
  rw [if_pos h9] at h
  simp (config:={zetaDelta:=true}) only [List.drop_zero,Nat.zero_add,Bool.and_eq_true,beq_iff_eq] at h
  obtain⟨g1,g2,g3⟩:=h
  obtain⟨a,r,rfl,ha⟩:=one g1
  rw [g1] at g2 g3
  simp only [List.drop_succ_cons,List.drop_zero] at g2 g3
  obtain⟨b,r,rfl,hb⟩:=one g2
  rw [g2] at g3
  have:=nil (r:=r) (by simp only [List.length_cons] at g3;omega)
  subst this
  exact⟨a,by rw [is2 hb],ha⟩
 rw [if_neg h9] at h ⊢
 by_cases h10:k=13
 ·rw [if_pos h10]
  rw [if_pos h10] at h
  simp (config:={zetaDelta:=true}) only [List.drop_zero,Nat.zero_add,Bool.and_eq_true,beq_iff_eq] at h
  obtain⟨g1,g2⟩:=h
  obtain⟨a,r,rfl,ha⟩:=one g1
  rw [g1] at g2
  simp only [List.drop_succ_cons,List.drop_zero] at g2
  obtain⟨b1,_,b3⟩:=cnt_le3 exB 4000 r
  rw [List.take_of_length_le (by simp only [List.length_cons] at g2;omega)] at b3
  exact⟨r,by rw [is2 ha],b3⟩
 rw [if_neg h10] at h ⊢
 by_cases h11:k=14
 ·rw [if_pos h11]
  rw [if_pos h11] at h
  simp (config:={zetaDelta:=true}) only [List.drop_zero,Nat.zero_add,beq_iff_eq] at h
  obtain⟨b1,b2,b3⟩:=cnt_le3 exB 1 l
  cases l with
  | nil=>exact .inl rfl
  | cons a r =>
   simp only [List.length_cons] at h
   have:=nil (r:=r) (by omega)
   subst this
   refine .inr ⟨a,rfl,b3 a ?_⟩
   have:cntS exB 1 [a]=1:=by simp only [List.length_nil] at h;omega
   rw [this];simp
 rw [if_neg h11] at h ⊢
 by_cases h12:k=16
 ·rw [if_pos h12]
  rw [if_pos h12] at h
  simp (config:={zetaDelta:=true}) only [List.drop_zero,Nat.zero_add,Bool.and_eq_true,beq_iff_eq] at h
  obtain⟨g1,g2⟩:=h
  obtain⟨a,b,r,rfl,ha,hb⟩:=dos g1
  rw [g1] at g2
  have:=nil (r:=r) (by simp only [List.length_cons] at g2;omega)
  subst this
  rw [is2 ha,is2 hb]
 rw [if_neg h12] at h ⊢
 simp (config:={zetaDelta:=true}) only [beq_iff_eq] at h
 exact nil (by omega)
structure RightT (ns:List Nd) (root:Int):Prop extends Std ns root where
 ok:rightS ns root=true
 top:(nd ns root.toNat).k=1
 kr:∀ i,i<ns.length→1≤(nd ns i).k∧(nd ns i).k≤27
 tx:∀ i,i<ns.length→textS (nd ns i).k (nd ns i).tx=true
 num:∀ i,i<ns.length→numberS (nd ns i).k (nd ns i).n=true
 shape:∀ i,i<ns.length→ShapeOf (nd ns i).k (kindsS ns (nd ns i))
theorem right_of {ns:List Nd} {root:Int} (h:rightS ns root=true):RightT ns root:=by
 have h0:=h
 simp only [rightS,Bool.and_eq_true,beq_iff_eq,decide_eq_true_eq] at h
 obtain⟨⟨⟨h1,h2⟩,h3⟩,h4⟩:=h
 have h5:∀ i,i<ns.length→nodeOkS ns (nd ns i)=true:=fun i hi=>by
  rw [List.all_eq_true] at h4
  refine h4 _ ?_
  simp only [nd,List.getD_eq_getElem?_getD,List.getElem?_eq_getElem hi,Option.getD_some]
  exact List.getElem_mem hi
 have h6:∀ i,i<ns.length→_:=fun i hi=>by
  have:=h5 i hi
  simp only [nodeOkS,Bool.and_eq_true,decide_eq_true_eq] at this
  exact this
 exact⟨std_of h1,h0,h3,fun i hi=>⟨(h6 i hi).1.1.1.1,(h6 i hi).1.1.1.2⟩,fun i hi=>(h6 i hi).1.1.2,fun i hi=>(h6 i hi).1.2,fun i hi=>shape_of (h6 i hi).2⟩
theorem kid_kind {k x:Int} {l:List Int} (h:ShapeOf k l) (hx:x∈l) :
  (k=1∧(x=2∨x=3))∨(k=3∧(x=4∨x=5∨x=6))∨(k=6∧stB x=true)∨(7≤k∧k≤27∧exB x=true)∨((k=9∨k=10)∧x=18)∨((k=11∨k=12∨k=16)∧x=6)∨(k=13∧x=19):=by
 unfold ShapeOf at h
 have ex:exB x=true→7≤k→k≤27→(k=1∧(x=2∨x=3))∨(k=3∧(x=4∨x=5∨x=6))∨(k=6∧stB x=true)∨(7≤k∧k≤27∧exB x=true)∨((k=9∨k=10)∧x=18)∨((k=11∨k=12∨k=16)∧x=6)∨(k=13∧x=19) :=
  fun a b c=>.inr (.inr (.inr (.inl ⟨b,c,a⟩)))
 by_cases h1:k=1
 ·rw [if_pos h1] at h
  obtain⟨a,b,rfl,p,q⟩:=h
  rcases List.mem_append.1 hx with m|m
  ·have:=p x m;omega
  ·have:=q x m;omega
 rw [if_neg h1] at h
 by_cases h2:k=3
 ·rw [if_pos h2] at h
  obtain⟨a,b,rfl,p,q⟩:=h
  rcases List.mem_append.1 hx with m|m
  ·rcases List.mem_append.1 m with m|m
   ·have:=p x m;omega
   ·have:=q x m;omega
  ·simp only [List.mem_cons,List.not_mem_nil,or_false] at m;omega
 rw [if_neg h2] at h
 by_cases h3:k=6
 ·rw [if_pos h3] at h
  exact .inr (.inr (.inl ⟨h3,h x hx⟩))
 rw [if_neg h3] at h
 by_cases h4:k=7∨k=17∨k=15∨k=23∨k=26
 ·rw [if_pos h4] at h
  obtain⟨a,rfl,p⟩:=h
  simp only [List.mem_cons,List.not_mem_nil,or_false] at hx
  exact ex (hx▸p) (by omega) (by omega)
 rw [if_neg h4] at h
 by_cases h5:k=8∨k=27
 ·rw [if_pos h5] at h
  obtain⟨a,b,rfl,p,q⟩:=h
  simp only [List.mem_cons,List.not_mem_nil,or_false] at hx
  rcases hx with m|m
  ·exact ex (m▸p) (by omega) (by omega)
  ·exact ex (m▸q) (by omega) (by omega)
 rw [if_neg h5] at h
 by_cases h6:k=9
 ·rw [if_pos h6] at h
  subst h
  simp only [List.mem_cons,List.not_mem_nil,or_false] at hx
  omega
 rw [if_neg h6] at h
 by_cases h7:k=10
 ·rw [if_pos h7] at h
  obtain⟨a,rfl,p⟩:=h
  simp only [List.mem_cons,List.not_mem_nil,or_false] at hx
  rcases hx with m|m
  ·omega
  ·exact ex (m▸p) (by omega) (by omega)
 rw [if_neg h7] at h
 by_cases h8:k=11
 ·rw [if_pos h8] at h
  obtain⟨a,rfl,p⟩:=h
  simp only [List.mem_cons,List.not_mem_nil,or_false] at hx
  rcases hx with m|m|m
  ·exact ex (m▸p) (by omega) (by omega)
  ·omega
  ·omega
 rw [if_neg h8] at h
 by_cases h9:k=12
 ·rw [if_pos h9] at h
  obtain⟨a,rfl,p⟩:=h
  simp only [List.mem_cons,List.not_mem_nil,or_false] at hx
  rcases hx with m|m
  ·exact ex (m▸p) (by omega) (by omega)
  ·omega
 rw [if_neg h9] at h
 by_cases h10:k=13
 ·rw [if_pos h10] at h
  obtain⟨a,rfl,p⟩:=h
  rcases List.mem_cons.1 hx with m|m
  ·omega
  ·exact ex (p x m) (by omega) (by omega)
 rw [if_neg h10] at h
 by_cases h11:k=14
 ·rw [if_pos h11] at h
  rcases h with rfl|⟨a,rfl,p⟩
  ·simp at hx
  ·simp only [List.mem_cons,List.not_mem_nil,or_false] at hx
   exact ex (hx▸p) (by omega) (by omega)
 rw [if_neg h11] at h
 by_cases h12:k=16
 ·rw [if_pos h12] at h
  subst h
  simp only [List.mem_cons,List.not_mem_nil,or_false] at hx
  omega
 rw [if_neg h12] at h
 subst h
 simp at hx
end Go.Ru
namespace Go.Ru
def firstB (p:Nat→Bool):Nat→Option Nat
 | 0=>none
 | n+1=>match firstB p n with
  | some j=>some j
  | none=>match p n with
   | true=>some n
   | false=>none
theorem firstB_some {p:Nat→Bool} {n j:Nat} (h:firstB p n=some j):j<n∧p j=true∧∀ i,i<j→p i=false:=by
 induction n with
 | zero=>simp [firstB] at h
 | succ n ih =>
  simp only [firstB] at h
  split at h
  ·rename_i j' hj'
   injection h with h
   subst h
   obtain⟨h1,h2,h3⟩:=ih hj'
   exact⟨by omega,h2,h3⟩
  ·rename_i hn
   split at h
   ·rename_i hp
    injection h with h
    subst h
    refine⟨by omega,hp,fun i hi=>?_⟩
    clear ih hp
    have key:∀ m,firstB p m=none→∀ i,i<m→p i=false:=by
     intro m
     induction m with
     | zero=>intro _ i hi;omega
     | succ m ihm =>
      intro hm i hi
      simp only [firstB] at hm
      split at hm
      ·cases hm
      ·rename_i hm'
       split at hm
       ·cases hm
       ·rename_i hq
        by_cases e:i=m
        ·subst e;exact hq
        ·exact ihm hm' i (by omega)
    exact key n hn i hi
   ·cases h
theorem firstB_none {p:Nat→Bool} {n:Nat} (h:firstB p n=none):∀ i,i<n→p i=false:=by
 induction n with
 | zero=>intro i hi;omega
 | succ n ih =>
  intro i hi
  simp only [firstB] at h
  split at h
  ·cases h
  ·rename_i hn
   split at h
   ·cases h
   ·rename_i hp
    by_cases e:i=n
    ·subst e;exact hp
    ·exact ih hn i (by omega)
theorem firstB_ex {p:Nat→Bool} {n i:Nat} (hi:i<n) (hp:p i=true):∃ j,firstB p n=some j∧j≤i:=by
 cases h:firstB p n with
 | none=>rw [firstB_none h i hi] at hp;cases hp
 | some j =>
  refine⟨j,rfl,?_⟩
  obtain⟨_,_,h3⟩:=firstB_some h
  by_cases e:i<j
  ·rw [h3 i e] at hp;cases hp
  ·omega
theorem firstB_eq {p:Nat→Bool} {n j:Nat} (h1:j<n) (h2:p j=true) (h3:∀ i,i<j→p i=false):firstB p n=some j:=by
 obtain⟨j',h4,h5⟩:=firstB_ex h1 h2
 obtain⟨_,h6,_⟩:=firstB_some h4
 by_cases e:j'<j
 ·rw [h3 j' e] at h6;cases h6
 ·rw [h4];congr 1;omega
section
variable (ns:List Nd) (root:Int)
def globP (name:Bs) (i:Nat):Bool:=(nd ns i).k==2&&(nd ns i).tx==name
def procP (name:Bs) (i:Nat):Bool:=(nd ns i).k==3&&(nd ns i).tx==name
def locP (o:Int) (name:Bs) (i:Nat):Bool:=((nd ns i).k==4 || (nd ns i).k==5)&&(own ns root i==o&&(nd ns i).tx==name)
def globS (name:Bs):Option Nat:=firstB (globP ns name) ns.length
def tprocS (name:Bs):Option Nat:=firstB (procP ns name) ns.length
def locS (o:Int) (name:Bs):Option Nat:=firstB (locP ns root o name) ns.length
def natO:Option Nat→Int
 | some d=>(d:Int)
 | none=>-1
def meansS (i:Nat) (name:Bs):Int:=match own ns root i==-1 with
 | true=>-1
 | false=>match locS ns root (own ns root i) name with
  | some d=>(d:Int)
  | none=>natO (globS ns name)
def procI (name:Bs):Int:=natO (tprocS ns name)
def kindS (i:Nat) (name:Bs):Int:=match meansS ns root i name != -1 with
 | true=>(nd ns (meansS ns root i name).toNat).n
 | false=>0
def paramsS (p:Nat):List Int:=((nd ns p).kids.filter fun q=>(nd ns q.toNat).k==4).map fun q=>(nd ns q.toNat).n
def tplainS (p:Nat):Bool:=paramsS ns p==[1]&&(nd ns p).n==1
def arith (t:Bs):Bool:=t==[43] || t==[45] || t==[42] || t==[47] || t==[37]
def tyS (i:Nat):Int :=
 let n:=nd ns i
 if n.k=20∨n.k=23∨n.k=24 then 1
 else if n.k=21 then 2
 else if n.k=25 then 4
 else if n.k=22 then kindS ns root i n.tx
 else if n.k=26∨n.k=27 then (if arith n.tx then 1 else 2)
 else 0
def allS (l:List Int) (kind:Int):Bool:=l.all fun q=>tyS ns root q.toNat==kind
def operandsS (n:Nd):Bool :=
 if n.tx=[33]∨n.tx=[38,38]∨n.tx=[124,124] then allS ns root n.kids 2
 else if n.tx=[61,61]∨n.tx=[33,61] then allS ns root n.kids 1 || allS ns root n.kids 2
 else allS ns root n.kids 1
def toldS (b:Bool):Int:=if b then 0 else 5
def tnamedS (i:Nat) (fits:Int→Bool):Int :=
 if meansS ns root i (nd ns i).tx=-1 then 3 else toldS (fits (kindS ns root i (nd ns i).tx))
def fitS:List Int→List Int→Bool
 | [],[]=>true
 | q::l,w::r=>tyS ns root q.toNat==w&&fitS l r
 | _,_=>false
def tcallS (i:Nat) (n:Nd):Int :=
 let name:=(nd ns ((n.kids.getD 0 0).toNat)).tx
 let d:=meansS ns root i name
 let p:=procI ns name
 if (d=-1∧p=-1)∨(n.tx≠[]∧meansS ns root i n.tx=-1) then 3
 else if d=-1 then toldS (fitS ns root n.kids.tail (paramsS ns p.toNat)&&(n.tx==[] || ((nd ns p.toNat).n != 0&&kindS ns root i n.tx==(nd ns p.toNat).n)))
 else if (nd ns d.toNat).n≠4 then 5
 else toldS (fitS ns root n.kids.tail [1]&&(n.tx==[] || kindS ns root i n.tx==1))
def natZ:Option Nat→Int
 | some d=>(d:Int)
 | none=>0
def twiceS (i:Nat) (n:Nd):Bool :=
 if n.k=4∨n.k=5 then natZ (locS ns root (own ns root i) n.tx) != (i:Int)
 else if n.k=2 then natZ (globS ns n.tx) != (i:Int)
 else (globS ns n.tx).isSome || natZ (tprocS ns n.tx) != (i:Int)
def checkS (i:Nat):Int :=
 let n:=nd ns i
 if n.k=2∨n.k=3∨n.k=4∨n.k=5 then (if twiceS ns root i n then 4 else 0)
 else if n.k=22 then tnamedS ns root i fun _=>true
 else if n.k=23∨n.k=8∨n.k=17 then tnamedS ns root i fun k=>k==3&&allS ns root n.kids 1
 else if n.k=24 then tnamedS ns root i fun k=>k==3
 else if n.k=9∨n.k=16 then tnamedS ns root i fun k=>k==1
 else if n.k=7 then tnamedS ns root i fun k=>k==tyS ns root (n.kids.getD 0 0).toNat
 else if n.k=25 then (if procI ns n.tx=-1 then 3 else toldS (tplainS ns (procI ns n.tx).toNat))
 else if n.k=26∨n.k=27 then toldS (operandsS ns root n)
 else if n.k=10 then toldS (allS ns root n.kids.tail 1)
 else if n.k=15 then toldS (allS ns root n.kids 1)
 else if n.k=11∨n.k=12 then toldS (allS ns root (n.kids.take 1) 2)
 else if n.k=13 then tcallS ns root i n
 else if n.k=14 then toldS (((nd ns (own ns root i).toNat).n==0)==(n.kids.length==0)&&allS ns root n.kids (nd ns (own ns root i).toNat).n)
 else 0
def wrongS:Nat→Nat→Option (Nat×Int)
 | _,0=>none
 | i,m+1=>match checkS ns root i==0 with
  | true=>wrongS (i+1) m
  | false=>some (i,checkS ns root i)
def mainT:Bs:=[109,97,105,110]
def checkTree:Int×Int:=match rightS ns root with
 | false=>(0,1)
 | true=>match wrongS ns root 0 ns.length with
  | some (i,e)=>((i:Int),e)
  | none=>match procI ns mainT==-1 || ((nd ns (procI ns mainT).toNat).n != 0 || decide (0<(paramsS ns (procI ns mainT).toNat).length)) with
   | true=>(root,11)
   | false=>(0,0)
end
theorem natO_range {p:Nat→Bool} {n:Nat}:natO (firstB p n)=-1∨(0≤natO (firstB p n)∧natO (firstB p n)<n∧p (natO (firstB p n)).toNat=true):=by
 cases h:firstB p n with
 | none=>exact .inl rfl
 | some j =>
  obtain⟨h1,h2,_⟩:=firstB_some h
  exact .inr ⟨by simp [natO],by simp only [natO];omega,by simpa [natO] using h2⟩
theorem means_range (ns:List Nd) (root:Int) (i:Nat) (name:Bs):meansS ns root i name=-1∨(0≤meansS ns root i name∧meansS ns root i name<ns.length):=by
 unfold meansS
 split
 ·exact .inl rfl
 ·split
  ·rename_i d hd
   obtain⟨h1,_⟩:=firstB_some hd
   exact .inr ⟨by omega,by omega⟩
  ·rcases natO_range (p:=globP ns name) (n:=ns.length) with h|⟨h1,h2,_⟩
   ·exact .inl h
   ·exact .inr ⟨h1,h2⟩
theorem procI_range (ns:List Nd) (name:Bs):procI ns name=-1∨(0≤procI ns name∧procI ns name<ns.length∧(nd ns (procI ns name).toNat).k=3):=by
 rcases natO_range (p:=procP ns name) (n:=ns.length) with h|⟨h1,h2,h3⟩
 ·exact .inl h
 ·exact .inr ⟨h1,h2,by simp only [procP,Bool.and_eq_true,beq_iff_eq] at h3;exact h3.1⟩
end Go.Ru
namespace Go.Ru
theorem kinds_mem {ns:List Nd} {n:Nd} {q:Int} (h:q∈n.kids):(nd ns q.toNat).k∈kindsS ns n:=List.mem_map.2 ⟨q,h,rfl⟩
theorem kinds_len (ns:List Nd) (n:Nd):(kindsS ns n).length=n.kids.length:=by simp [kindsS]
section
variable {ns:List Nd} {root:Int} (h:RightT ns root)
include h
theorem RightT.up {i:Nat} (hi:i<ns.length) (hr:(i:Int)≠root):∃ p,i<p∧p<ns.length∧(i:Int)∈(nd ns p).kids∧parF ns root i=(p:Int):=by
 have:=h.rt
 exact h.toStd.par_up i (by omega)
theorem RightT.notroot {i:Nat} (_:i<ns.length) (hk:(nd ns i).k≠1):(i:Int)≠root:=fun e=>by
 have:=h.top
 rw [← e] at this
 exact hk (by simpa using this)
theorem RightT.decl {i:Nat} (hi:i<ns.length) (hk:(nd ns i).k=4∨(nd ns i).k=5):∃ p,i<p∧p<ns.length∧(i:Int)∈(nd ns p).kids∧(nd ns p).k=3∧own ns root i=(p:Int):=by
 obtain⟨p,h1,h2,h3,h4⟩:=h.up hi (h.notroot hi (by omega))
 have h5:=kid_kind (h.shape p h2) (kinds_mem h3)
 simp only [Int.toNat_natCast] at h5
 have h6:(nd ns p).k=3:=by
  rcases h5 with ⟨_,h5⟩|⟨h5,_⟩|⟨_,h5⟩|⟨_,_,h5⟩|⟨_,h5⟩|⟨_,h5⟩|⟨_,h5⟩
  ·omega
  ·exact h5
  ·simp only [stB,Bool.and_eq_true,decide_eq_true_eq] at h5;omega
  ·simp only [exB,Bool.and_eq_true,decide_eq_true_eq] at h5;omega
  ·omega
  ·omega
  ·omega
 refine⟨p,h1,h2,h3,h6,?_⟩
 have h7:=own_kid h.toStd h2 h3 (by simp only [Int.toNat_natCast];omega)
 simp only [Int.toNat_natCast] at h7
 rw [h7,own_eq h.toStd h2,if_pos h6]
theorem RightT.owned:∀ (m i:Nat),ns.length - i≤m→i<ns.length→(nd ns i).k≠1→(nd ns i).k≠2→0≤own ns root i∧own ns root i<ns.length:=by
 intro m
 induction m with
 | zero=>intro i h1 h2;omega
 | succ m ih =>
  intro i h1 hi k1 k2
  rw [own_eq h.toStd hi]
  by_cases k3:(nd ns i).k=3
  ·rw [if_pos k3];omega
  rw [if_neg k3,if_neg (h.notroot hi k1)]
  obtain⟨p,p1,p2,p3,p4⟩:=h.up hi (h.notroot hi k1)
  have h5:=kid_kind (h.shape p p2) (kinds_mem p3)
  simp only [Int.toNat_natCast] at h5
  rw [p4,Int.toNat_natCast]
  refine ih p (by omega) p2 ?_ ?_
  ·omega
  ·omega
omit h in
theorem told_ok {b:Bool} (h:toldS b=0):b=true:=by
 cases b with
 | true=>rfl
 | false=>simp [toldS] at h
omit h in
theorem named_ok {i:Nat} {fits:Int→Bool} (hc:tnamedS ns root i fits=0):0≤meansS ns root i (nd ns i).tx∧fits (nd ns (meansS ns root i (nd ns i).tx).toNat).n=true∧kindS ns root i (nd ns i).tx=(nd ns (meansS ns root i (nd ns i).tx).toNat).n:=by
 unfold tnamedS at hc
 split at hc
 ·cases hc
 rename_i hd
 have hk:kindS ns root i (nd ns i).tx=(nd ns (meansS ns root i (nd ns i).tx).toNat).n:=by
  unfold kindS
  rw [show (meansS ns root i (nd ns i).tx != -1)=true by simpa using hd]
 rw [hk] at hc
 refine⟨?_,told_ok hc,hk⟩
 rcases means_range ns root i (nd ns i).tx with e|⟨e,_⟩
 ·exact absurd e hd
 ·exact e
end
theorem ck2 {ns:List Nd} {root:Int} {i:Nat} (h:(nd ns i).k=2):checkS ns root i=if twiceS ns root i (nd ns i) then 4 else 0:=by simp [checkS,h]
theorem ck3 {ns:List Nd} {root:Int} {i:Nat} (h:(nd ns i).k=3):checkS ns root i=if twiceS ns root i (nd ns i) then 4 else 0:=by simp [checkS,h]
theorem ck4 {ns:List Nd} {root:Int} {i:Nat} (h:(nd ns i).k=4):checkS ns root i=if twiceS ns root i (nd ns i) then 4 else 0:=by simp [checkS,h]
theorem ck5 {ns:List Nd} {root:Int} {i:Nat} (h:(nd ns i).k=5):checkS ns root i=if twiceS ns root i (nd ns i) then 4 else 0:=by simp [checkS,h]
theorem ck22 {ns:List Nd} {root:Int} {i:Nat} (h:(nd ns i).k=22):checkS ns root i=tnamedS ns root i fun _=>true:=by simp [checkS,h]
theorem ck23 {ns:List Nd} {root:Int} {i:Nat} (h:(nd ns i).k=23):checkS ns root i=tnamedS ns root i fun k=>k==3&&allS ns root (nd ns i).kids 1:=by simp [checkS,h]
theorem ck8 {ns:List Nd} {root:Int} {i:Nat} (h:(nd ns i).k=8):checkS ns root i=tnamedS ns root i fun k=>k==3&&allS ns root (nd ns i).kids 1:=by simp [checkS,h]
theorem ck17 {ns:List Nd} {root:Int} {i:Nat} (h:(nd ns i).k=17):checkS ns root i=tnamedS ns root i fun k=>k==3&&allS ns root (nd ns i).kids 1:=by simp [checkS,h]
theorem ck24 {ns:List Nd} {root:Int} {i:Nat} (h:(nd ns i).k=24):checkS ns root i=tnamedS ns root i fun k=>k==3:=by simp [checkS,h]
theorem ck9 {ns:List Nd} {root:Int} {i:Nat} (h:(nd ns i).k=9):checkS ns root i=tnamedS ns root i fun k=>k==1:=by simp [checkS,h]
theorem ck16 {ns:List Nd} {root:Int} {i:Nat} (h:(nd ns i).k=16):checkS ns root i=tnamedS ns root i fun k=>k==1:=by simp [checkS,h]
theorem ck7 {ns:List Nd} {root:Int} {i:Nat} (h:(nd ns i).k=7):checkS ns root i=tnamedS ns root i fun k=>k==tyS ns root ((nd ns i).kids.getD 0 0).toNat:=by simp [checkS,h]
theorem ck25 {ns:List Nd} {root:Int} {i:Nat} (h:(nd ns i).k=25):checkS ns root i=if procI ns (nd ns i).tx=-1 then 3 else toldS (tplainS ns (procI ns (nd ns i).tx).toNat):=by simp [checkS,h]
theorem ck26 {ns:List Nd} {root:Int} {i:Nat} (h:(nd ns i).k=26):checkS ns root i=toldS (operandsS ns root (nd ns i)):=by simp [checkS,h]
theorem ck27 {ns:List Nd} {root:Int} {i:Nat} (h:(nd ns i).k=27):checkS ns root i=toldS (operandsS ns root (nd ns i)):=by simp [checkS,h]
theorem ck10 {ns:List Nd} {root:Int} {i:Nat} (h:(nd ns i).k=10):checkS ns root i=toldS (allS ns root (nd ns i).kids.tail 1):=by simp [checkS,h]
theorem ck15 {ns:List Nd} {root:Int} {i:Nat} (h:(nd ns i).k=15):checkS ns root i=toldS (allS ns root (nd ns i).kids 1):=by simp [checkS,h]
theorem ck11 {ns:List Nd} {root:Int} {i:Nat} (h:(nd ns i).k=11):checkS ns root i=toldS (allS ns root ((nd ns i).kids.take 1) 2):=by simp [checkS,h]
theorem ck12 {ns:List Nd} {root:Int} {i:Nat} (h:(nd ns i).k=12):checkS ns root i=toldS (allS ns root ((nd ns i).kids.take 1) 2):=by simp [checkS,h]
theorem ck13 {ns:List Nd} {root:Int} {i:Nat} (h:(nd ns i).k=13):checkS ns root i=tcallS ns root i (nd ns i):=by simp [checkS,h]
theorem ck14 {ns:List Nd} {root:Int} {i:Nat} (h:(nd ns i).k=14):checkS ns root i=toldS (((nd ns (own ns root i).toNat).n==0)==((nd ns i).kids.length==0)&&allS ns root (nd ns i).kids (nd ns (own ns root i).toNat).n):=by simp [checkS,h]
theorem ckD {ns:List Nd} {root:Int} {i:Nat} (h2:(nd ns i).k≠2) (h3:(nd ns i).k≠3) (h4:(nd ns i).k≠4) (h5:(nd ns i).k≠5) (h22:(nd ns i).k≠22) (h23:(nd ns i).k≠23) (h8:(nd ns i).k≠8) (h17:(nd ns i).k≠17) (h24:(nd ns i).k≠24) (h9:(nd ns i).k≠9) (h16:(nd ns i).k≠16) (h7:(nd ns i).k≠7) (h25:(nd ns i).k≠25) (h26:(nd ns i).k≠26) (h27:(nd ns i).k≠27) (h10:(nd ns i).k≠10) (h15:(nd ns i).k≠15) (h11:(nd ns i).k≠11) (h12:(nd ns i).k≠12) (h13:(nd ns i).k≠13) (h14:(nd ns i).k≠14):checkS ns root i=0:=by simp [checkS,h2,h3,h4,h5,h22,h23,h8,h17,h24,h9,h16,h7,h25,h26,h27,h10,h15,h11,h12,h13,h14]
end Go.Ru
namespace Go.Ru
theorem stB_iff {k:Int}:stB k=true↔7≤k∧k≤17:=by simp [stB]
theorem exB_iff {k:Int}:exB k=true↔20≤k∧k≤27:=by simp [exB]
structure GN where
 k:Int
 pl:Int
 pr:Int
 nx:List Int
 ra:Int
instance:Inhabited GN:=⟨⟨0,0,0,[],0⟩⟩
def riseB (n:Nd):Bool:=n.k==8 || n.k==17 || n.k==13 || n.k==15 || n.k==23 || (n.k==27&&(n.tx==[47] || n.tx==[37]))
def raisesN (ns:List Nd):Nat→Nat→Bool
 | 0,_=>false
 | m+1,i=>riseB (nd ns i) || (nd ns i).kids.any fun q=>exB (nd ns q.toNat).k&&raisesN ns m q.toNat
def raisesF (ns:List Nd) (i:Nat):Bool:=raisesN ns (i+1) i
def atO (of:Int→Option Nat) (p:Nat):Nat:=match of (p:Int) with
 | some j=>j
 | none=>0
def setG (f:Nat→GN) (j:Nat) (nx:List Int) (ra:Int) (i:Nat):GN:=if i=j then ⟨(f j).k,(f j).pl,(f j).pr,nx,ra⟩ else f i
def flRow (st:Nat→Int→Int→(Nat→GN)→Int×(Nat→GN)) (h:Int):List Int→Int→(Nat→GN)→Int×(Nat→GN)
 | [],fo,G=>(fo,G)
 | q::r,fo,G=>match st q.toNat fo h G with
  | (b,G')=>flRow st h r b G'
section
variable (ns:List Nd) (of:Int→Option Nat) (ex:Int)
def flStmt:Nat→Nat→Int→Int→(Nat→GN)→Int×(Nat→GN)
 | 0,_,fo,_,G=>(fo,G)
 | m+1,p,fo,h,G =>
  let a:=atO of p
  let ra:=if raisesF ns p then h else -1
  let ks:=(nd ns p).kids
  if (nd ns p).k=11 then
   match flRow (flStmt m) h (nd ns (ks.getD 1 0).toNat).kids.reverse fo G with
   | (b1,G1)=>match flRow (flStmt m) h (nd ns (ks.getD 2 0).toNat).kids.reverse fo G1 with
    | (b2,G2)=>((a:Int),setG G2 a [b1,b2] ra)
  else if (nd ns p).k=12 then
   match flRow (flStmt m) h (nd ns (ks.getD 1 0).toNat).kids.reverse (a:Int) G with
   | (b1,G1)=>((a:Int),setG G1 a [b1,fo] ra)
  else if (nd ns p).k=16 then
   match flRow (flStmt m) (a:Int) (nd ns (ks.getD 0 0).toNat).kids.reverse fo G with
   | (b1,G1)=>match flRow (flStmt m) h (nd ns (ks.getD 1 0).toNat).kids.reverse fo G1 with
    | (b2,G2)=>(b1,setG G2 a [b2] (-1))
  else if (nd ns p).k=14 then ((a:Int),setG G a [ex] ra)
  else if (nd ns p).k=15 then ((a:Int),setG G a [] ra)
  else ((a:Int),setG G a [fo] ra)
def flBlock (m p:Nat) (fo h:Int) (G:Nat→GN):Int×(Nat→GN):=flRow (flStmt ns of ex m) h (nd ns p).kids.reverse fo G
end
def addG (n:Nat) (f:Nat→GN) (x:GN) (i:Nat):GN:=if i=n then x else f i
def insO (of:Int→Option Nat) (p:Nat) (c:Nat) (q:Int):Option Nat:=if q=(p:Int) then some c else of q
structure SS where
 n:Nat
 f:Nat→GN
 of:Int→Option Nat
def stepsS (ns:List Nd) (num:Int):Nat→Nat→SS→SS
 | 0,_,s=>s
 | m+1,i,s=>stepsS ns num m (i+1) (match stB (nd ns i).k with
  | true=>⟨s.n+1,addG s.n s.f ⟨4,(i:Int),num,[],-1⟩,insO s.of i s.n⟩
  | false=>s)
structure BSt where
 n:Nat
 f:Nat→GN
 of:Int→Option Nat
 ps:List Int
 fst:Nat
def endsS (n:Nat) (f:Nat→GN) (p num:Int):Nat→GN:=addG (n+2) (addG (n+1) (addG n f ⟨1,p,num,[],-1⟩) ⟨2,p,num,[],-1⟩) ⟨3,p,num,[],-1⟩
def layS (ns:List Nd) (s:BSt) (q:Nat):BSt :=
 let s1:=stepsS ns (s.ps.length:Int) (q - s.fst) s.fst ⟨s.n+3,endsS s.n s.f (q:Int) (s.ps.length:Int),s.of⟩
 match flBlock ns s1.of ((s.n:Int)+1) 4000 ((nd ns q).kids.getD ((nd ns q).kids.length - 1) 0).toNat ((s.n:Int)+1) ((s.n:Int)+2) s1.f with
 | (b,G)=>⟨s1.n,setG G s.n [b] (G s.n).ra,s1.of,s.ps++[(q:Int)],q+1⟩
def buildR (ns:List Nd):List Int→BSt→BSt
 | [],s=>s
 | q::r,s=>match (nd ns q.toNat).k==3 with
  | true=>buildR ns r (layS ns s q.toNat)
  | false=>buildR ns r ⟨s.n,s.f,s.of,s.ps,q.toNat+1⟩
def bst0:BSt:=⟨0,fun _=>default,fun _=>none,[],0⟩
def buildS (ns:List Nd) (root:Int):BSt:=buildR ns (nd ns root.toNat).kids bst0
def endS (n:Nat) (p:Nat→Bool):Int:=match firstB p n with
 | some j=>(j:Int)
 | none=>-1
end Go.Ru
namespace Go.Proofs.YtcmepkfefoidcaaGreatDoor
open Go.AE Go.Ru
set_option maxRecDepth 100000
def gL:AG:=gput 154 cIndexByte (gput 173 cContains (gput 207 cAtoi (gput 209 cItoa g0)))
theorem gL_ok:GOk Tryz.prog gL:=gput_ok indexByte_ok (gput_ok contains_ok (gput_ok atoi_ok (gput_ok itoa_ok g0_ok)))
theorem frame0P {G:AG} (hG:GOk Tryz.prog G) (n:Nat) {f:FuncId} {args:List AV} {X:List ABlk} {k:AO→List ABlk→Prop} (hcl:AV.cls 0 args=true)
  (h:∀ Q:AO→List ABlk→Prop,(∀ v K',v.cl 0=true→k (.ret v) X→Q (.ret v) K')→acall1 T0 G n f args [] Q):ACalls Tryz.prog f args X k:=by
 refine (ACalls.frame (K0:=[]) (X:=X) (k:=fun ao K1=>k ao (K1++X)) hcl (fun r h=>by simp at h) (call_ok hG n f args [] _ (h _ ?_))).mono fun ao K ⟨K1,h1,h2⟩=>by subst h1;exact h2
 intro v K' h1 h2
 refine⟨h1,by simp,fun r hr=>by simp at hr,?_⟩
 show k (.ret v) (takeN K' 0++X)
 rw [takeN_zero];exact h2
def cKept:AC:=fun args K k=>∃ l,args=[.p (.str l)]∧l.length<1000000∧k (.ret (.p (.bool (keptP l)))) K
theorem kept_ok:COk 208 cKept:=by
 rintro args K k ⟨l,rfl,hl,hk⟩
 refine frame0P gL_ok 19 rfl fun Q hr=>?_
 conv=>whnf
 refine two_intro (fun h=>?_) (fun h=>?_)
 ·have h:(!(l==[]))=true:=h
  conv=>whnf
  refine⟨_,_,rfl,?_⟩
  conv=>whnf
  refine two_intro (fun h2=>?_) (fun h2=>?_)
  ·have h2:decide (Lib.indexByte l 32<0)=true:=h2
   conv=>whnf
   refine⟨?_,?_⟩
   ·show 1+l.length≤_
    omega
   conv=>whnf
   refine⟨?_,?_⟩
   ·show ([32]++l).length+1≤_
    simp only [List.length_append,List.length_cons,List.length_nil];omega
   conv=>whnf
   refine⟨_,_,rfl,by decide,?_⟩
   conv=>whnf
   simp only [keptP,h,h2,Bool.true_and] at hk
   exact hr _ _ rfl hk
  ·have h2:decide (Lib.indexByte l 32<0)=false:=h2
   conv=>whnf
   simp only [keptP,h,h2,Bool.false_and,Bool.and_false] at hk
   exact hr _ _ rfl hk
 ·have h:(!(l==[]))=false:=h
  conv=>whnf
  simp only [keptP,h,Bool.false_and] at hk
  exact hr _ _ rfl hk
theorem u8n (c:UInt8):((c.toNat:Int)).toNat.toUInt8=c:=by simp
theorem u8b (l:List UInt8) (i:Nat):(byteAt l i).toNat.toUInt8=l.getD i 0:=u8n _
def cOnly:AC:=fun args K k=>∃ l m,args=[.p (.str l),.p (.str m)]∧l.length<1000000∧k (.ret (.p (.bool (l.all (inB m))))) K
theorem only_ok:COk 214 cOnly:=by
 rintro args K k ⟨l,m,rfl,hl,hk⟩
 refine frame0P gL_ok 19 rfl fun Q hr=>?_
 conv=>whnf
 refine⟨by omega,?_⟩
 conv=>whnf
 refine loop_by (ι:=Nat) (fun i=>⟨[(8,.p (.int .i64 i)),(7,.p (.int .i64 l.length)),(0,.p (.sl 1 l.length (byteF l))),(1,.fn 237 [] [.ptr 0 0 1 0 0])],[.box 9 [.p (.str m)]]⟩)
  (fun i=>i≤l.length∧(l.take i).all (inB m)=true) (fun i=>l.length - i) 0 ⟨AV.le_refl _,AV.le_refl _,AV.le_refl _,AV.le_refl _,trivial⟩ (lesK.refl _) ⟨by omega,rfl⟩ ?_
 intro Y hle i ⟨hi,ha⟩ ih
 conv=>whnf
 refine two_intro (fun h=>?_) (fun h=>?_)
 ·have h:i<l.length:=by simpa using h
  conv=>whnf
  refine⟨⟨by omega,by omega,rfl⟩,?_⟩
  conv=>whnf
  refine⟨_,_,rfl,?_⟩
  have hi2:((i:Int)).toNat=i:=by omega
  have hc:((l.getD (Int.toNat i) 0).toNat:Int).toNat.toUInt8=l[i]:=by
   rw [u8n,hi2,List.getD_eq_getElem?_getD,List.getElem?_eq_getElem h];rfl
  conv=>whnf
  have hb:decide (Lib.indexByte m (((l.getD (Int.toNat i) 0).toNat:Int).toNat.toUInt8)<0)=!inB m l[i]:=by
   rw [hc];simp only [inB]
   by_cases hx:Lib.indexByte m l[i]<0
   ·simp [hx]<;>omega
   ·simp [hx]<;>omega
  refine two_intro (fun h2=>?_) (fun h2=>?_)
  ·rw [hb] at h2
   have h2:inB m l[i]=false:=by simpa using h2
   have he:l.all (inB m)=false:=by
    rw [List.all_eq_false];exact⟨l[i],by simp,by simp [h2]⟩
   conv=>whnf
   rw [he] at hk
   have:(decide ((i:Int)≥0))=true:=by simp
   rw [this]
   exact hr _ _ rfl hk
  ·rw [hb] at h2
   have h2:inB m l[i]=true:=by simpa using h2
   conv=>whnf
   refine hle _ _ (Le.env ?_ (lesK.refl _)) (ih (i+1) (by omega) ⟨by omega,?_⟩)
   ·refine⟨AV.le_of_eq ?_,AV.le_refl _,AV.le_refl _,AV.le_refl _,trivial⟩
    show AV.p (.int .i64 (IntKind.i64.wrap ((i:Int)+1)))=.p (.int .i64 ((i+1:Nat):Int))
    rw [w64 (by omega)];rfl
   ·rw [List.take_succ_eq_append_getElem h,List.all_append,ha];simp [h2]
 ·have h:¬ i<l.length:=by simpa using h
  obtain rfl:i=l.length:=by omega
  rw [List.take_length] at ha
  conv=>whnf
  rw [ha] at hk
  exact hr _ _ rfl hk
def cIdentT:AC:=fun args K k=>∃ l,args=[.p (.str l)]∧l.length<1000000∧k (.ret (.p (.bool (identP l)))) K
def gK:AG:=gput 208 cKept (gput 214 cOnly gL)
theorem gK_ok:GOk Tryz.prog gK:=gput_ok kept_ok (gput_ok only_ok gL_ok)
theorem identT_ok:COk 172 cIdentT:=by
 rintro args K k ⟨l,rfl,hl,hk⟩
 refine frame0P gK_ok 19 rfl fun Q hr=>?_
 conv=>whnf
 refine two_intro (fun h=>?_) (fun h=>?_)
 ·have h:(!(l==[]))=true:=h
  conv=>whnf
  refine two_intro (fun h2=>?_) (fun h2=>?_)
  ·have h2:decide (l.length≤20)=true:=decide_eq_true (by have:=of_decide_eq_true h2;omega)
   conv=>whnf
   refine⟨_,_,rfl,hl,?_⟩
   conv=>whnf
   refine two_intro (fun h3=>?_) (fun h3=>?_)
   ·have h3:l.all (inB partsT)=true:=h3
    have hl0:0<l.length:=by
     cases l with
     | nil=>simp at h
     | cons a r=>simp
    conv=>whnf
    refine⟨⟨by omega,by omega⟩,?_⟩
    conv=>whnf
    refine⟨_,_,rfl,?_⟩
    conv=>whnf
    refine two_intro (fun h4=>?_) (fun h4=>?_)
    ·rw [u8b] at h4
     have h4:decide (Lib.indexByte digitsT (l.getD 0 0)<0)=true:=h4
     conv=>whnf
     refine⟨_,rfl,hl,?_⟩
     conv=>whnf
     simp only [identP,h,h2,h3,h4,Bool.true_and] at hk
     exact hr _ _ rfl hk
    ·rw [u8b] at h4
     have h4:decide (Lib.indexByte digitsT (l.getD 0 0)<0)=false:=h4
     conv=>whnf
     simp only [identP,h,h2,h3,h4,Bool.true_and,Bool.false_and] at hk
     exact hr _ _ rfl hk
   ·have h3:l.all (inB partsT)=false:=h3
    conv=>whnf
    simp only [identP,h,h2,h3,Bool.true_and,Bool.false_and] at hk
    exact hr _ _ rfl hk
  ·have h2:decide (l.length≤20)=false:=decide_eq_false (by have:=of_decide_eq_false h2;omega)
   conv=>whnf
   simp only [identP,h,h2,Bool.true_and,Bool.false_and] at hk
   exact hr _ _ rfl hk
 ·have h:(!(l==[]))=false:=h
  conv=>whnf
  simp only [identP,h,Bool.false_and] at hk
  exact hr _ _ rfl hk
def tkV (k n a:Int) (l:Bs):AV:=.agg [.p (.int .i64 k),.p (.int .i64 n),.p (.int .i64 a),.p (.str l)]
def wordV (l:Bs) (a:Int):Option (TK×Int)→AV
 | some (k,v)=>.tup [tkV k.code v a l,.p (.bool true)]
 | none=>.tup [tkV 0 0 a l,.p (.bool false)]
def cWordT:AC:=fun args K k=>∃ l a,args=[.p (.str l),.p (.int .i64 a)]∧l.length<1000000∧k (.ret (wordV l a (wordP l))) K
def gI:AG:=gput 172 cIdentT gK
theorem gI_ok:GOk Tryz.prog gI:=gput_ok identT_ok gK_ok
theorem wordT_ok:COk 155 cWordT:=by
 rintro args K k ⟨l,a,rfl,hl,hk⟩
 refine frame0P gI_ok 19 rfl fun Q hr=>?_
 conv=>whnf
 refine⟨_,rfl,hl,?_⟩
 have kw:keptP l=true→k (.ret (.tup [tkV 4 0 a l,.p (.bool true)])) K:=fun h=>by simp only [wordP,h] at hk;exact hk
 have ki:keptP l=false→identP l=true→k (.ret (.tup [tkV 1 0 a l,.p (.bool true)])) K:=fun h h2=>by simp only [wordP,h,h2] at hk;exact hk
 cases ha:Lib.atoiAll l with
 | ok v =>
  obtain⟨hv0,hv1⟩:=Lib.atoiAll_bounds ha
  conv=>whnf
  refine⟨_,rfl,hl,?_⟩
  conv=>whnf
  refine two_intro (fun h=>?_) (fun h=>?_)
  ·have hk:=kw h
   conv=>whnf
   repeat ((refine And.intro ?_ ?_);(focus ((conv=>whnf);done));conv=>whnf)
   exact hr _ _ rfl hk
  ·have h:keptP l=false:=h
   conv=>whnf
   refine⟨_,rfl,hl,?_⟩
   conv=>whnf
   refine two_intro (fun h2=>?_) (fun h2=>?_)
   ·have hk:=ki h h2
    conv=>whnf
    repeat ((refine And.intro ?_ ?_);(focus ((conv=>whnf);done));conv=>whnf)
    exact hr _ _ rfl hk
   ·have h2:identP l=false:=h2
    conv=>whnf
    refine⟨_,rfl,by omega,by omega,?_⟩
    conv=>whnf
    refine two_intro (fun h3=>?_) (fun h3=>?_)
    ·have h3:Lib.itoa v=l:=by simpa using h3
     simp only [wordP,h,h2,numP,ha,if_pos h3] at hk
     conv=>whnf
     repeat ((refine And.intro ?_ ?_);(focus ((conv=>whnf);done));conv=>whnf)
     exact hr _ _ rfl hk
    ·have h3:¬ Lib.itoa v=l:=by simpa using h3
     simp only [wordP,h,h2,numP,ha,if_neg h3] at hk
     conv=>whnf
     repeat ((refine And.intro ?_ ?_);(focus ((conv=>whnf);done));conv=>whnf)
     exact hr _ _ rfl hk
 | range =>
  conv=>whnf
  refine⟨_,rfl,hl,?_⟩
  conv=>whnf
  refine two_intro (fun h=>?_) (fun h=>?_)
  ·have hk:=kw h
   conv=>whnf
   repeat ((refine And.intro ?_ ?_);(focus ((conv=>whnf);done));conv=>whnf)
   exact hr _ _ rfl hk
  ·have h:keptP l=false:=h
   conv=>whnf
   refine⟨_,rfl,hl,?_⟩
   conv=>whnf
   refine two_intro (fun h2=>?_) (fun h2=>?_)
   ·have hk:=ki h h2
    conv=>whnf
    repeat ((refine And.intro ?_ ?_);(focus ((conv=>whnf);done));conv=>whnf)
    exact hr _ _ rfl hk
   ·have h2:identP l=false:=h2
    simp only [wordP,h,h2,numP,ha] at hk
    conv=>whnf
    repeat ((refine And.intro ?_ ?_);(focus ((conv=>whnf);done));conv=>whnf)
    exact hr _ _ rfl hk
 | _ =>
  conv=>whnf
  refine⟨_,rfl,hl,?_⟩
  conv=>whnf
  refine two_intro (fun h=>?_) (fun h=>?_)
  ·have hk:=kw h
   conv=>whnf
   repeat ((refine And.intro ?_ ?_);(focus ((conv=>whnf);done));conv=>whnf)
   exact hr _ _ rfl hk
  ·have h:keptP l=false:=h
   conv=>whnf
   refine⟨_,rfl,hl,?_⟩
   conv=>whnf
   refine two_intro (fun h2=>?_) (fun h2=>?_)
   ·have hk:=ki h h2
    conv=>whnf
    repeat ((refine And.intro ?_ ?_);(focus ((conv=>whnf);done));conv=>whnf)
    exact hr _ _ rfl hk
   ·have h2:identP l=false:=h2
    simp only [wordP,h,h2,numP,ha] at hk
    conv=>whnf
    repeat ((refine And.intro ?_ ?_);(focus ((conv=>whnf);done));conv=>whnf)
    exact hr _ _ rfl hk
theorem bne_byte (l:List UInt8) (i:Nat):(byteAt l i != 32)=!(l.getD i 0==32):=by
 show (!(((l.getD i 0).toNat:Int)==32))=_
 congr 1
 rw [Bool.eq_iff_iff]
 simp only [beq_iff_eq]
 constructor
 ·intro h
  exact UInt8.toNat_inj.1 (by show (l.getD i 0).toNat=32;omega)
 ·intro h;rw [h];rfl
def cSignT:AC:=fun args K k=>∃ l,args=[.p (.str l)]∧0<l.length∧l.length<1000000∧k (.ret (.p (.int .i64 (signP l:Nat)))) K
theorem signT_ok:COk 156 cSignT:=by
 rintro args K k ⟨l,rfl,hl0,hl,hk⟩
 refine frame0P gL_ok 19 rfl fun Q hr=>?_
 conv=>whnf
 have hd1:decide ((l.length:Int)>1)=decide (l.length>1):=by
  by_cases h:l.length>1
  ·rw [decide_eq_true h,decide_eq_true (by omega)]
  ·rw [decide_eq_false h,decide_eq_false (by omega)]
 refine two_intro (fun h=>?_) (fun h=>?_)
 ·rw [hd1] at h
  have h1:=of_decide_eq_true h
  conv=>whnf
  refine⟨⟨by omega,by omega⟩,?_⟩
  conv=>whnf
  refine two_intro (fun h2=>?_) (fun h2=>?_)
  ·have h2:(!(l.getD 0 0==32))=true:=by rw [← bne_byte];exact h2
   conv=>whnf
   refine⟨⟨by omega,by omega⟩,?_⟩
   conv=>whnf
   refine two_intro (fun h3=>?_) (fun h3=>?_)
   ·have h3:(!(l.getD 1 0==32))=true:=by rw [← bne_byte];exact h3
    conv=>whnf
    refine⟨⟨by decide,by decide,by omega⟩,?_⟩
    conv=>whnf
    refine⟨?_,?_⟩
    ·show 1+(l.take 2).length≤_
     simp only [List.length_take];omega
    conv=>whnf
    refine⟨?_,?_⟩
    ·show ([32]++l.take 2).length+1≤_
     simp only [List.length_append,List.length_cons,List.length_nil,List.length_take];omega
    conv=>whnf
    refine⟨_,_,rfl,by decide,?_⟩
    conv=>whnf
    refine two_intro (fun h4=>?_) (fun h4=>?_)
    ·have h4:Lib.contains pairsT ([32]++l.take 2++[32])=true:=h4
     have hp:pairP l=true:=by simp only [pairP,h,h2,h3,h4,Bool.and_true]
     simp only [signP,if_pos hp] at hk
     conv=>whnf
     exact hr _ _ rfl hk
    ·have h4:Lib.contains pairsT ([32]++l.take 2++[32])=false:=h4
     have hp:¬ pairP l=true:=by simp only [pairP,h,h2,h3,h4,Bool.and_false];simp
     simp only [signP,if_neg hp] at hk
     conv=>whnf
     refine⟨⟨by omega,by omega⟩,?_⟩
     conv=>whnf
     refine⟨_,_,rfl,?_⟩
     conv=>whnf
     have hb:decide (Lib.indexByte singleT ((byteAt l (Int.toNat 0)).toNat.toUInt8)≥0)=inB singleT (l.getD 0 0):=by rw [u8b];rfl
     refine two_intro (fun h5=>?_) (fun h5=>?_)
     ·have h5:inB singleT (l.getD 0 0)=true:=by rw [← hb];exact h5
      conv=>whnf
      rw [if_pos h5] at hk
      exact hr _ _ rfl hk
     ·have h5:inB singleT (l.getD 0 0)=false:=by rw [← hb];exact h5
      conv=>whnf
      rw [if_neg (by rw [h5];exact Bool.false_ne_true)] at hk
      exact hr _ _ rfl hk
   ·have h3:(!(l.getD 1 0==32))=false:=by rw [← bne_byte];exact h3
    have hp:¬ pairP l=true:=by simp only [pairP,h,h2,h3,Bool.and_false,Bool.false_and];simp
    simp only [signP,if_neg hp] at hk
    conv=>whnf
    refine⟨⟨by omega,by omega⟩,?_⟩
    conv=>whnf
    refine⟨_,_,rfl,?_⟩
    conv=>whnf
    have hb:decide (Lib.indexByte singleT ((byteAt l (Int.toNat 0)).toNat.toUInt8)≥0)=inB singleT (l.getD 0 0):=by rw [u8b];rfl
    refine two_intro (fun h5=>?_) (fun h5=>?_)
    ·have h5:inB singleT (l.getD 0 0)=true:=by rw [← hb];exact h5
     conv=>whnf
     rw [if_pos h5] at hk
     exact hr _ _ rfl hk
    ·have h5:inB singleT (l.getD 0 0)=false:=by rw [← hb];exact h5
     conv=>whnf
     rw [if_neg (by rw [h5];exact Bool.false_ne_true)] at hk
     exact hr _ _ rfl hk
  ·have h2:(!(l.getD 0 0==32))=false:=by rw [← bne_byte];exact h2
   have hp:¬ pairP l=true:=by simp only [pairP,h,h2,Bool.and_false,Bool.false_and];simp
   simp only [signP,if_neg hp] at hk
   conv=>whnf
   refine⟨⟨by omega,by omega⟩,?_⟩
   conv=>whnf
   refine⟨_,_,rfl,?_⟩
   conv=>whnf
   have hb:decide (Lib.indexByte singleT ((byteAt l (Int.toNat 0)).toNat.toUInt8)≥0)=inB singleT (l.getD 0 0):=by rw [u8b];rfl
   refine two_intro (fun h5=>?_) (fun h5=>?_)
   ·have h5:inB singleT (l.getD 0 0)=true:=by rw [← hb];exact h5
    conv=>whnf
    rw [if_pos h5] at hk
    exact hr _ _ rfl hk
   ·have h5:inB singleT (l.getD 0 0)=false:=by rw [← hb];exact h5
    conv=>whnf
    rw [if_neg (by rw [h5];exact Bool.false_ne_true)] at hk
    exact hr _ _ rfl hk
 ·rw [hd1] at h
  have hp:¬ pairP l=true:=by simp only [pairP,h,Bool.false_and];simp
  simp only [signP,if_neg hp] at hk
  conv=>whnf
  refine⟨⟨by omega,by omega⟩,?_⟩
  conv=>whnf
  refine⟨_,_,rfl,?_⟩
  conv=>whnf
  have hb:decide (Lib.indexByte singleT ((byteAt l (Int.toNat 0)).toNat.toUInt8)≥0)=inB singleT (l.getD 0 0):=by rw [u8b];rfl
  refine two_intro (fun h5=>?_) (fun h5=>?_)
  ·have h5:inB singleT (l.getD 0 0)=true:=by rw [← hb];exact h5
   conv=>whnf
   rw [if_pos h5] at hk
   exact hr _ _ rfl hk
  ·have h5:inB singleT (l.getD 0 0)=false:=by rw [← hb];exact h5
   conv=>whnf
   rw [if_neg (by rw [h5];exact Bool.false_ne_true)] at hk
   exact hr _ _ rfl hk
def encTok (t:Tok):List PV:=[.int .i64 t.k.code,.int .i64 t.n,.int .i64 t.at_,.str t.tx]
def encs (e:Int):List Tok→Nat→List PV
 | [],_=>[.int .i64 5,.int .i64 0,.int .i64 e,.str []]
 | t::r,i=>match i with
  | 0=>encTok t
  | i+1=>encs e r i
def kidF (l:List Int) (i:Nat):List PV:=[.int .i64 (l.getD i 0)]
def encNode (n:Nd):List PV:=[.int .i64 n.k,.int .i64 n.n,.int .i64 n.at_,.str n.tx,.sl 1 n.kids.length (kidF n.kids)]
def nodeF (ns:List Nd) (i:Nat):List PV:=encNode (ns.getD i default)
def pb (e:Int) (ts:List Tok) (n:Nat) (op mo:Int):ABlk:=.box 158 [.p (.sl 4 (ts.length+1) (encs e ts)),.slr 1 0 0 n,.p (.int .i64 op),.p (.int .i64 mo)]
def nb (ns:List Nd):ABlk:=.arr 82 5 0 ns.length (fun i=>pvs (nodeF ns i))
def encP (e:Int) (ts:List Tok) (ns:List Nd) (op mo:Int):List ABlk:=[pb e ts ns.length op mo,nb ns]
def pp:AV:=.ptr 0 0 1 0 0
def wrongV (a er:Int):AV:=.iface 155 (.agg [.p (.int .i64 a),.p (.int .i64 er)])
theorem encP_cl (e:Int) (ts:List Tok) (ns:List Nd) (op mo:Int) (r:Nat):(hp (encP e ts ns op mo) r).cl 2 :=
 clK.hp (K:=encP e ts ns op mo) ⟨(rfl:AV.cls 2 _=true),fun i _=>rfl,trivial⟩ r
theorem frameL {G:AG} (hG:GOk Tryz.prog G) (n:Nat) {f:FuncId} {args:List AV} {e:Int} {ts:List Tok} {ns:List Nd} {op mo:Int} {X:List ABlk} {k:AO→List ABlk→Prop} (hcl:AV.cls 2 args=true)
  (h:∀ Q:AO→List ABlk→Prop,
   (∀ v K' ts' ns' op' mo',v.cl 2=true→lesK (takeN K' 2) (encP e ts' ns' op' mo')→k (.ret v) (encP e ts' ns' op' mo'++X)→Q (.ret v) K') →
   (∀ v K',v.cl 0=true→k (.pan v) (deads 2++X)→Q (.pan v) K')→acall1 T0 G n f args (encP e ts ns op mo) Q) :
  ACalls Tryz.prog f args (encP e ts ns op mo++X) k:=by
 refine (ACalls.frame (K0:=encP e ts ns op mo) (k:=fun ao K1=>k ao (K1++X)) hcl (fun r _=>encP_cl e ts ns op mo r)
  (ACalls.post (k:=fun ao K1=>∃ K2,lesK K1 K2∧frameK 2 (fun ao K1=>k ao (K1++X)) ao K2) (call_ok hG n f args _ _ (h _ ?_ ?_)) ?_)).mono ?_
 ·intro v K' ts' ns' op' mo' h1 h3 h4
  refine⟨encP e ts' ns' op' mo'++dropN K' 2,h3.head,h1,?_,fun r hr=>?_,?_⟩
  ·simp [encP]
  ·rw [hp_append,if_pos (show r<(encP e ts' ns' op' mo').length from hr)];exact encP_cl e ts' ns' op' mo' r
  ·have h5:takeN (encP e ts' ns' op' mo'++dropN K' 2) 2=encP e ts' ns' op' mo':=by simp [encP,takeN,takeN_zero]
   show k (.ret v) (takeN (encP e ts' ns' op' mo'++dropN K' 2) 2++X)
   rw [h5];exact h4
 ·intro v K' h1 h2;exact⟨K',lesK.refl _,h1,h2⟩
 ·rintro (v|v) K1 ⟨K2,h1,h2⟩
  ·exact⟨v,K2,Wk1.le (AV.le_refl _) h1,h2⟩
  ·exact⟨v,K2,Wk1.le (AV.le_refl _) h1,h2⟩
 ·rintro ao K ⟨K1,rfl,h⟩;exact h
theorem frameP {G:AG} (hG:GOk Tryz.prog G) (n:Nat) {f:FuncId} {args:List AV} {e:Int} {ts:List Tok} {ns:List Nd} {op mo:Int} {X:List ABlk} {k:AO→List ABlk→Prop} (hcl:AV.cls 2 args=true)
  (h:∀ Q:AO→List ABlk→Prop,
   (∀ v K' ts' ns' op' mo',v.cl 2=true→takeN K' 2=encP e ts' ns' op' mo'→k (.ret v) (encP e ts' ns' op' mo'++X)→Q (.ret v) K') →
   (∀ v K',v.cl 0=true→k (.pan v) (deads 2++X)→Q (.pan v) K')→acall1 T0 G n f args (encP e ts ns op mo) Q) :
  ACalls Tryz.prog f args (encP e ts ns op mo++X) k :=
 frameL hG n hcl fun Q hr hp=>h Q (fun v K' ts' ns' op' mo' h1 h2 h3=>hr v K' ts' ns' op' mo' h1 (h2▸lesK.refl _) h3) hp
structure After {α:Type} (e:Int) (r:R α) (val:α→AV) (op:Int) (X:List ABlk) (k:AO→List ABlk→Prop):Prop where
 ok:∀ a ts' ns' mo',r=.ok a ⟨ts',ns',mo'⟩→k (.ret (val a)) (encP e ts' ns' op mo'++X)
 bad:∀ a er,r=.bad a er→k (.pan (wrongV a er)) (deads 2++X)
def intV (x:Int):AV:=.p (.int .i64 x)
def tokV (t:Tok):AV:=.agg [.p (.int .i64 t.k.code),.p (.int .i64 t.n),.p (.int .i64 t.at_),.p (.str t.tx)]
def cIs:AC:=fun args K k=>∃ e ts ns op mo w X,args=[pp,.p (.str w)]∧K=encP e ts ns op mo++X∧k (.ret (.p (.bool (isS w ts)))) (encP e ts ns op mo++X)
theorem is_ok:COk 158 cIs:=by
 rintro args K k ⟨e,ts,ns,op,mo,w,X,rfl,rfl,hk⟩
 refine frameP g0_ok 9 rfl fun Q hr hp=>?_
 cases ts with
 | nil =>
  conv=>whnf
  refine⟨by simp,?_⟩
  conv=>whnf
  exact hr _ _ _ _ _ _ rfl rfl hk
 | cons t r =>
  obtain⟨tk,tn,ta,tx⟩:=t
  cases tk <;>
  ·conv=>whnf
   refine⟨by simp;omega,?_⟩
   conv=>whnf
   exact hr _ _ _ _ _ _ rfl rfl hk
def cTake:AC:=fun args K k=>∃ e t r ns op mo X,args=[pp]∧K=encP e (t::r) ns op mo++X∧k (.ret (tokV t)) (encP e r ns op mo++X)
theorem take_ok:COk 159 cTake:=by
 rintro args K k ⟨e,t,r,ns,op,mo,X,rfl,rfl,hk⟩
 refine frameP g0_ok 9 rfl fun Q hr hp=>?_
 conv=>whnf
 refine⟨by simp;omega,?_⟩
 conv=>whnf
 refine⟨by simp;omega,?_⟩
 conv=>whnf
 exact hr _ _ r ns op mo rfl rfl hk
def cFail:AC:=fun args K k=>∃ e ts ns op mo er X,args=[pp,.p (.int .i64 er)]∧K=encP e ts ns op mo++X∧k (.pan (wrongV (hd e ts) er)) (deads 2++X)
theorem fail_ok:COk 104 cFail:=by
 rintro args K k ⟨e,ts,ns,op,mo,er,X,rfl,rfl,hk⟩
 refine frameP g0_ok 9 rfl fun Q hr hp=>?_
 cases ts <;>
 ·conv=>whnf
  refine⟨by simp<;>omega,?_⟩
  conv=>whnf
  exact hp _ _ rfl hk
def g1:AG:=gput 158 cIs (gput 159 cTake (gput 104 cFail g0))
theorem g1_ok:GOk Tryz.prog g1:=gput_ok is_ok (gput_ok take_ok (gput_ok fail_ok g0_ok))
theorem isS_cons {w:Bs} {ts:List Tok} (h:isS w ts=true):∃ t r,ts=t::r:=by
 cases ts with
 | nil=>simp [isS] at h
 | cons t r=>exact⟨t,r,rfl⟩
structure SkipK (e:Int) (ts:List Tok) (ns:List Nd) (op mo:Int) (w:Bs) (X:List ABlk) (k:AO→List ABlk→Prop):Prop where
 yes:isS w ts=true→k (.ret (.p (.bool true))) (encP e ts.tail ns op mo++X)
 no:isS w ts=false→k (.ret (.p (.bool false))) (encP e ts ns op mo++X)
def cSkip:AC:=fun args K k=>∃ e ts ns op mo w X,args=[pp,.p (.str w)]∧K=encP e ts ns op mo++X∧SkipK e ts ns op mo w X k
theorem skip_ok:COk 210 cSkip:=by
 rintro args K k ⟨e,ts,ns,op,mo,w,X,rfl,rfl,hk⟩
 refine frameP g1_ok 9 rfl fun Q hr hp=>?_
 conv=>whnf
 refine⟨_,_,_,_,_,_,_,rfl,rfl,?_⟩
 conv=>whnf
 cases h:isS w ts with
 | false =>
  conv=>whnf
  exact hr _ _ _ _ _ _ rfl rfl (hk.no h)
 | true =>
  obtain⟨t,r,rfl⟩:=isS_cons h
  conv=>whnf
  refine⟨_,_,_,_,_,_,_,rfl,rfl,?_⟩
  conv=>whnf
  exact hr _ _ _ _ _ _ rfl rfl (hk.yes h)
def cWant:AC:=fun args K k=>∃ e ts ns op mo w X,args=[pp,.p (.str w)]∧K=encP e ts ns op mo++X∧After e (wantS e w ⟨ts,ns,mo⟩) (fun _=>.tup []) op X k
def g2:AG:=gput 210 cSkip g1
theorem g2_ok:GOk Tryz.prog g2:=gput_ok skip_ok g1_ok
theorem want_ok:COk 162 cWant:=by
 rintro args K k ⟨e,ts,ns,op,mo,w,X,rfl,rfl,hk⟩
 refine frameP g2_ok 9 rfl fun Q hr hp=>?_
 conv=>whnf
 refine⟨_,_,_,_,_,_,_,rfl,rfl,⟨fun h=>?_,fun h=>?_⟩⟩
 ·conv=>whnf
  exact hr _ _ _ _ _ _ rfl rfl (hk.ok () _ _ _ (by simp [wantS,h,dropS]))
 ·conv=>whnf
  refine⟨_,_,_,_,_,_,_,rfl,rfl,?_⟩
  conv=>whnf
  exact hp _ _ rfl (hk.bad _ _ (by simp [wantS,h]))
def cIdent:AC:=fun args K k=>∃ e ts ns op mo X,args=[pp]∧K=encP e ts ns op mo++X∧After e (identS e ⟨ts,ns,mo⟩) tokV op X k
theorem ident_ok:COk 160 cIdent:=by
 rintro args K k ⟨e,ts,ns,op,mo,X,rfl,rfl,hk⟩
 refine frameP g2_ok 9 rfl fun Q hr hp=>?_
 cases ts with
 | nil =>
  conv=>whnf
  refine⟨by simp,?_⟩
  conv=>whnf
  refine⟨_,_,_,_,_,_,_,rfl,rfl,?_⟩
  conv=>whnf
  exact hp _ _ rfl (hk.bad _ _ rfl)
 | cons t r =>
  obtain⟨tk,tn,ta,tx⟩:=t
  cases tk with
  | name =>
   conv=>whnf
   refine⟨by simp;omega,?_⟩
   conv=>whnf
   refine⟨_,_,_,_,_,_,_,rfl,rfl,?_⟩
   conv=>whnf
   exact hr _ _ _ _ _ _ rfl rfl (hk.ok _ _ _ _ rfl)
  | _ =>
   conv=>whnf
   refine⟨by simp;omega,?_⟩
   conv=>whnf
   refine⟨_,_,_,_,_,_,_,rfl,rfl,?_⟩
   conv=>whnf
   exact hp _ _ rfl (hk.bad _ _ rfl)
def g3:AG:=gput 162 cWant (gput 160 cIdent g2)
theorem g3_ok:GOk Tryz.prog g3:=gput_ok want_ok (gput_ok ident_ok g2_ok)
theorem put0 {e:Int} {ts:List Tok} {ns:List Nd} {op mo:Int} {n:Nd} {X:List ABlk} {k:AO→List ABlk→Prop} (hn:ns.length<1000000)
  (hk:k (.ret (intV ns.length)) (encP e ts (ns++[n]) op mo++X)) :
  ACalls Tryz.prog 108 [pp,.agg [.p (.int .i64 n.k),.p (.int .i64 n.n),.p (.int .i64 n.at_),.p (.str n.tx),.p .nils],.p (.sl 1 n.kids.length (kidF n.kids))] (encP e ts ns op mo++X) k:=by
 refine frameL g0_ok 9 rfl fun Q hr hp=>?_
 conv=>whnf
 refine⟨by conv=>whnf,?_⟩
 refine⟨⟨rfl,rfl,rfl,fun i hi=>?_⟩,?_⟩
 ·obtain rfl:i=0:=by omega
  rfl
 conv=>whnf
 refine⟨by simp;omega,?_⟩
 conv=>whnf
 have hv:IntKind.i64.wrap (((ns.length+1:Nat):Int) - 1)=ns.length:=by rw [w64]<;>omega
 rw [hv]
 refine hr _ _ ts (ns++[n]) op mo rfl ⟨ABlk.le_of_eq (by simp [pb]),ABlk.arr_eq (by simp) fun i hi=>?_,trivial⟩ hk
 by_cases h:i<ns.length
 ·rw [catF_lt h]
  show pvs (nodeF ns i)=pvs (nodeF (ns++[n]) i)
  simp [nodeF,List.getElem?_append_left h]
 ·obtain rfl:i=ns.length:=by omega
  rw [catF_ge (Nat.le_refl _),Nat.sub_self]
  show _=pvs (nodeF (ns++[n]) ns.length)
  simp [nodeF]
  rfl
structure PutK (e:Int) (ts:List Tok) (ns:List Nd) (op mo:Int) (n:Nd) (kv:AV) (X:List ABlk) (k:AO→List ABlk→Prop):Prop where
 small:ns.length<1000000
 none:kv=.p .nils→n.kids=[]∧k (.ret (intV ns.length)) (encP e ts (ns++[n]) op mo++X)
 row:∀ r ver m,kv=.slr r ver 0 m→∃ j f,r=j+2∧nth X j=some (.arr 3 1 ver m f)∧n.kids.length=m∧(∀ i,i<m→f i=[intV (n.kids.getD i 0)])∧k (.ret (intV ns.length)) (encP e ts (ns++[n]) op mo++setN X j .dead)
 sort:kv=.p .nils∨∃ r ver m,kv=.slr r ver 0 m
def cPut:AC:=fun args K k=>∃ kids e ts ns op mo kd nn na tx kv X,args=[pp,.agg [.p (.int .i64 kd),.p (.int .i64 nn),.p (.int .i64 na),.p (.str tx),.p .nils],kv]∧K=encP e ts ns op mo++X∧PutK e ts ns op mo ⟨kd,nn,na,tx,kids⟩ kv X k
theorem PutK.nils {e:Int} {ts:List Tok} {ns:List Nd} {op mo kd nn na:Int} {tx:Bs} {X:List ABlk} {k:AO→List ABlk→Prop} (hs:ns.length<1000000)
  (h:k (.ret (intV ns.length)) (encP e ts (ns++[⟨kd,nn,na,tx,[]⟩]) op mo++X)):PutK e ts ns op mo ⟨kd,nn,na,tx,[]⟩ (.p .nils) X k :=
 ⟨hs,fun _=>⟨rfl,h⟩,fun _ _ _ h=>by simp at h,.inl rfl⟩
theorem PutK.slr {e:Int} {ts:List Tok} {ns:List Nd} {op mo kd nn na:Int} {tx:Bs} {kids:List Int} {j r ver m:Nat} {f:Nat→List AV} {X:List ABlk} {k:AO→List ABlk→Prop} (hs:ns.length<1000000)
  (hr:r=j+2) (hj:nth X j=some (.arr 3 1 ver m f)) (hm:kids.length=m) (hf:∀ i,i<m→f i=[intV (kids.getD i 0)])
  (h:k (.ret (intV ns.length)) (encP e ts (ns++[⟨kd,nn,na,tx,kids⟩]) op mo++setN X j .dead)):PutK e ts ns op mo ⟨kd,nn,na,tx,kids⟩ (.slr r ver 0 m) X k :=
 ⟨hs,fun h=>by simp at h,fun r' ver' m' h'=>by
  simp only [AV.slr.injEq] at h'
  obtain⟨rfl,rfl,-,rfl⟩:=h'
  exact⟨j,f,hr,hj,hm,hf,h⟩,.inr ⟨_,_,_,rfl⟩⟩
theorem put_ok:COk 108 cPut:=by
 rintro args K k ⟨kids,e,ts,ns,op,mo,kd,nn,na,tx,kv,X,rfl,rfl,hk⟩
 rcases hk.sort with rfl|⟨r,ver,m,rfl⟩
 ·obtain⟨h1,h2⟩:=hk.none rfl
  refine (put0 (n:=⟨kd,nn,na,tx,kids⟩) hk.small h2).pre (Wk.le ⟨AV.le_refl _,AV.le_refl _,?_,trivial⟩ (lesK.refl _))
  rw [h1];exact AV.nils_le 1 _
 ·obtain⟨j,f,rfl,hj,rfl,hf,h2⟩:=hk.row _ _ _ rfl
  refine (put0 (n:=⟨kd,nn,na,tx,kids⟩) hk.small h2).pre fun w m Args hS hV=>?_
  have hj':nth (encP e ts ns op mo++X) (j+2)=some (.arr 3 1 ver kids.length f):=hj
  obtain⟨m',h3,h4,h5⟩:=freeze_sl hS hj' (kidF kids) hf
  refine⟨m',h3,h4,hV.1,fun i hi hi'=>?_⟩
  have h6:=fun i hi hi'=>(hV.2 i hi hi').mono h3
  rcases i with _|_|_|i
  ·exact h6 0 hi hi'
  ·exact h6 1 hi hi'
  ·exact h5 _ (hV.2 2 hi hi')
  ·simp at hi;omega
def g4:AG:=gput 108 cPut g3
theorem g4_ok:GOk Tryz.prog g4:=gput_ok put_ok g3_ok
def idxG (ts:List Tok):Nat→List Bs→Int
 | _,[]=>-1
 | i,w::r=>match isS w ts with
  | true=>i
  | false=>idxG ts (i+1) r
def strF (l:List Bs) (i:Nat):List PV:=[.str (l.getD i [])]
def isF:AV:=.fn 158 [pp] []
def cIdx:AC:=fun args K k=>∃ e ts ns op mo l X,args=[.p (.sl 1 (List.length l) (strF l)),isF]∧K=encP e ts ns op mo++X∧l.length<1000∧k (.ret (intV (idxG ts 0 l))) (encP e ts ns op mo++X)
theorem idx_ok:COk 211 cIdx:=by
 rintro args K k ⟨e,ts,ns,op,mo,l,X,rfl,rfl,hl,hk⟩
 refine frameP g1_ok 9 rfl fun Q hr hp=>?_
 conv=>whnf
 refine loop_by (ι:=Nat) (fun i=>⟨[(8,intV i),(7,intV l.length),(1,isF),(0,.p (.sl 1 l.length (strF l)))],encP e ts ns op mo⟩)
   (fun i=>i≤l.length∧idxG ts i (l.drop i)=idxG ts 0 l) (fun i=>l.length - i) 0 ⟨AV.le_refl _,AV.le_refl _,AV.le_refl _,AV.le_refl _,trivial⟩ (lesK.refl _) ⟨by omega,rfl⟩ ?_
 intro Y hle i ⟨hi,he⟩ ih
 conv=>whnf
 refine two_intro (fun h=>?_) (fun h=>?_)
 ·have h:i<l.length:=by simpa using h
  rw [List.drop_eq_getElem_cons h] at he
  conv=>whnf
  refine⟨⟨by omega,by omega,rfl⟩,?_⟩
  conv=>whnf
  refine⟨e,ts,ns,op,mo,_,[],rfl,rfl,?_⟩
  conv=>whnf
  have hi2:((i:Int)).toNat=i:=by omega
  have e1:l.getD (Int.toNat i) []=l[i]:=by simp [List.getD_eq_getElem?_getD,h]
  refine two_intro (fun h2=>?_) (fun h2=>?_)
  ·conv=>whnf
   have h2:isS l[i] ts=true:=e1▸h2
   simp only [idxG,h2] at he
   exact hr _ _ ts ns op mo rfl rfl (he▸hk)
  ·conv=>whnf
   have h2:isS l[i] ts=false:=e1▸h2
   simp only [idxG,h2] at he
   refine hle _ _ (Le.env ?_ (lesK.refl _)) (ih (i+1) (by omega) ⟨by omega,he⟩)
   refine⟨AV.le_of_eq ?_,AV.le_refl _,AV.le_refl _,AV.le_refl _,trivial⟩
   show AV.p (.int .i64 (IntKind.i64.wrap ((i:Int)+1)))=intV ((i+1:Nat):Int)
   rw [w64 (by omega)];rfl
 ·have h:¬ i<l.length:=by simpa using h
  obtain rfl:i=l.length:=by omega
  rw [List.drop_length] at he
  conv=>whnf
  rw [← he] at hk
  exact hr _ _ ts ns op mo rfl rfl hk
def cIdx2:AC:=fun args K k=>cIdx args K k∨∃ l e ts ns op mo j r ver m f X,args=[.slr r ver 0 m,isF]∧K=encP e ts ns op mo++X∧r=j+2∧nth X j=some (.arr 9 1 ver m f)∧List.length l=m∧m<1000∧(∀ i,i<m→f i=pvs (strF l i))∧k (.ret (intV (idxG ts 0 l))) (encP e ts ns op mo++setN X j .dead)
theorem idx2_ok:COk 211 cIdx2:=by
 rintro args K k (h|⟨l,e,ts,ns,op,mo,j,r,ver,m,f,X,rfl,rfl,rfl,hj,rfl,hl,hf,hk⟩)
 ·exact idx_ok args K k h
 ·refine (idx_ok [.p (.sl 1 l.length (strF l)),isF] (encP e ts ns op mo++setN X j .dead) k ⟨e,ts,ns,op,mo,l,_,rfl,rfl,hl,hk⟩).pre fun w m Args hS hV=>?_
  have hj':nth (encP e ts ns op mo++X) (j+2)=some (.arr 9 1 ver l.length f):=hj
  obtain⟨m',h3,h4,h5⟩:=freeze_sl hS hj' (strF l) hf
  refine⟨m',h3,h4,hV.1,fun i hi hi'=>?_⟩
  have h6:=fun i hi hi'=>(hV.2 i hi hi').mono h3
  rcases i with _|_|i
  ·exact h5 _ (hV.2 0 hi hi')
  ·exact h6 1 hi hi'
  ·simp at hi;omega
def g5:AG:=gput 211 cIdx2 g4
theorem g5_ok:GOk Tryz.prog g5:=gput_ok idx2_ok g4_ok
theorem idxG_any (ts:List Tok) (l:List Bs) (i:Nat):decide (idxG ts i l≥0)=anyS l ts:=by
 induction l generalizing i with
 | nil=>rfl
 | cons w r ih =>
  simp only [idxG,anyS,List.any_cons]
  by_cases h:isS w ts=true
  ·simp [h]
  ·have h:isS w ts=false:=by simpa using h
   simp only [h]
   rw [Bool.false_or];exact ih (i+1)
def cAny:AC:=fun args K k=>∃ e ts ns op mo l X,args=[.p (.sl 1 (List.length l) (strF l)),isF]∧K=encP e ts ns op mo++X∧l.length<1000∧k (.ret (.p (.bool (anyS l ts)))) (encP e ts ns op mo++X)
theorem any_ok:COk 254 cAny:=by
 rintro args K k ⟨e,ts,ns,op,mo,l,X,rfl,rfl,hl,hk⟩
 refine frameP g5_ok 9 rfl fun Q hr hp=>?_
 conv=>whnf
 refine .inl ⟨e,ts,ns,op,mo,l,[],rfl,rfl,hl,?_⟩
 conv=>whnf
 rw [← idxG_any ts l 0] at hk
 exact hr _ _ ts ns op mo rfl rfl hk
def cRows:AC:=fun args K k=>∃ j:Nat,∃ kk,j≤4∧args=[.p (.int .i64 kk)]∧kk=4 - (j:Int)∧k (.ret (.p (.sl 1 (rowS j).length (strF (rowS j))))) K
theorem rows_ok:COk 255 cRows:=by
 rintro args K k ⟨j,kk,hj,rfl,rfl,hk⟩
 refine (ACalls.frame (K0:=[]) (X:=K) (k:=fun ao K1=>k ao (K1++K)) rfl (fun r h=>by simp at h) ?_).mono (fun ao K1 h=>?_)
 ·refine (ACalls.post (k:=fun ao K1=>∃ f,ao=.ret (.slr 0 0 0 (rowS j).length)∧K1=[.arr 9 1 0 (rowS j).length f]∧∀ i,i<(rowS j).length→f i=pvs (strF (rowS j) i)) (call_ok g0_ok 9 _ _ _ _ ?_) ?_)
  ·have hc:j=0∨j=1∨j=2∨j=3∨j=4:=by omega
   rcases hc with rfl|rfl|rfl|rfl|rfl
   ·conv=>whnf
    exact⟨_,rfl,rfl,allLt_ok ⟨⟨⟨trivial,rfl⟩,rfl⟩,rfl⟩⟩
   ·conv=>whnf
    exact⟨_,rfl,rfl,allLt_ok ⟨⟨trivial,rfl⟩,rfl⟩⟩
   ·conv=>whnf
    exact⟨_,rfl,rfl,allLt_ok ⟨⟨⟨⟨⟨⟨trivial,rfl⟩,rfl⟩,rfl⟩,rfl⟩,rfl⟩,rfl⟩⟩
   ·conv=>whnf
    exact⟨_,rfl,rfl,allLt_ok ⟨trivial,rfl⟩⟩
   ·conv=>whnf
    exact⟨_,rfl,rfl,allLt_ok ⟨trivial,rfl⟩⟩
  ·rintro ao K1 ⟨f,rfl,rfl,hf⟩
   refine⟨_,_,Wk1.freeze (r:=0) rfl (strF (rowS j)) hf,rfl,?_,fun r h=>by simp at h,hk⟩
   simp
 ·obtain⟨K2,rfl,h⟩:=h;exact h
def g6:AG:=gput 254 cAny (gput 255 cRows g5)
theorem g6_ok:GOk Tryz.prog g6:=gput_ok any_ok (gput_ok rows_ok g5_ok)
def typeL:List Bs:=[[105,110,116],[98,111,111,108],[97,114,114],[102,117,110]]
theorem types_eq (ts:List Tok):idxG ts 0 typeL+1=typesS ts:=by
 simp only [typeL,idxG,typesS]
 split<;>rename_i h1<;>(try simp only [h1])
 ·rfl
 split<;>rename_i h2<;>(try simp only [h2])
 ·rfl
 split<;>rename_i h3<;>(try simp only [h3])
 ·rfl
 split<;>rename_i h4<;>(try simp only [h4])
 ·rfl
 ·rfl
theorem types_in (ts:List Tok):0≤typesS ts∧typesS ts≤4:=by
 simp only [typesS]
 repeat' split
 all_goals omega
def cTypes:AC:=fun args K k=>∃ e ts ns op mo X,args=[pp]∧K=encP e ts ns op mo++X∧k (.ret (intV (typesS ts))) (encP e ts ns op mo++X)
theorem typesC_ok:COk 167 cTypes:=by
 rintro args K k ⟨e,ts,ns,op,mo,X,rfl,rfl,hk⟩
 refine frameP g5_ok 9 rfl fun Q hr hp=>?_
 conv=>whnf
 refine .inr ⟨typeL,e,ts,ns,op,mo,0,_,_,_,_,_,rfl,rfl,rfl,rfl,rfl,by decide,allLt_ok ⟨⟨⟨⟨trivial,rfl⟩,rfl⟩,rfl⟩,rfl⟩,?_⟩
 conv=>whnf
 have hv:IntKind.i64.wrap (idxG ts 0 typeL+1)=typesS ts:=by
  rw [types_eq]
  have:=types_in ts
  rw [w64 (by omega)]
 rw [hv]
 exact hr _ _ ts ns op mo rfl rfl hk
def g7:AG:=gput 167 cTypes g6
theorem g7_ok:GOk Tryz.prog g7:=gput_ok typesC_ok g6_ok
theorem frameS {G:AG} (hG:GOk Tryz.prog G) (n:Nat) {f:FuncId} {args:List AV} {K0 X:List ABlk} {k:AO→List ABlk→Prop} (hcl:AV.cls K0.length args=true) (hK:clK K0.length K0)
  (h:∀ Q:AO→List ABlk→Prop,(∀ v K',v.cl K0.length=true→K0.length≤K'.length→takeN K' K0.length=K0→k (.ret v) (K0++X)→Q (.ret v) K')→acall1 T0 G n f args K0 Q):ACalls Tryz.prog f args (K0++X) k:=by
 refine (ACalls.frame (K0:=K0) (X:=X) (k:=fun ao K1=>k ao (K1++X)) hcl (fun r h=>clK.hp hK r) (call_ok hG n f args K0 _ (h _ ?_))).mono fun ao K ⟨K1,h1,h2⟩=>by subst h1;exact h2
 intro v K' h1 h2 h3 h4
 refine⟨h1,h2,fun r hr=>?_,?_⟩
 ·have e:=congrArg (fun L=>hp L r) h3
  simp only [hp_takeN,if_pos hr] at e
  rw [e];exact clK.hp hK r
 ·show k (.ret v) (takeN K' K0.length++X)
  rw [h3];exact h4
theorem frame0W {G:AG} (hG:GOk Tryz.prog G) (n:Nat) {f:FuncId} {args:List AV} {X:List ABlk} {k:AO→List ABlk→Prop} (hcl:AV.cls 0 args=true)
  (h:∀ Q:AO→List ABlk→Prop,(∀ v K' v' K2,Wk1 0 v K' v' K2→v'.cl 0=true→k (.ret v') X→Q (.ret v) K')→acall1 T0 G n f args [] Q):ACalls Tryz.prog f args X k:=by
 refine (ACalls.frame (K0:=[]) (X:=X) (k:=fun ao K1=>k ao (K1++X)) hcl (fun r h=>by simp at h)
  (ACalls.post (k:=fun ao K1=>∃ v v' K2,ao=.ret v∧Wk1 0 v K1 v' K2∧v'.cl 0=true∧k (.ret v') X) (call_ok hG n f args [] _ (h _ ?_)) ?_)).mono fun ao K ⟨K1,h1,h2⟩=>by subst h1;exact h2
 ·intro v K' v' K2 h1 h2 h3
  exact⟨v,v',K2,rfl,h1,h2,h3⟩
 ·rintro ao K1 ⟨v,v',K2,rfl,h1,h2,h3⟩
  refine⟨v',K2,h1,h2,by simp,fun r hr=>by simp at hr,?_⟩
  show k (.ret v') (takeN K2 0++X)
  rw [takeN_zero];exact h3
def cutK (s:Bs) (i:Nat):List ABlk:=[.box 9 [.p (.str s)],.box 3 [.p (.int .i64 i)]]
def cRow:AC:=fun args K k=>∃ (some s:Bs) (i:Nat) (ii:Int) (X:List ABlk),args=[.p (.str some),.ptr 1 0 1 0 0,.ptr 0 0 1 0 0]∧K=[.box 9 [.p (.str s)],.box 3 [.p (.int .i64 ii)]]++X∧ii=i∧i≤s.length∧s.length<1000000 ∧
 k (.ret (.p (.int .i64 ((i+runS some (s.drop i):Nat):Int)))) (cutK s i++X)
theorem runS_cons (l:Bs) (c:UInt8) (r:Bs):runS l (c::r)=if inB l c then runS l r+1 else 0:=by
 simp only [runS,List.takeWhile_cons]
 split<;>simp
theorem row_ok:COk 153 cRow:=by
 rintro args K k ⟨m,s,i,_,X,rfl,rfl,rfl,hi,hs,hk⟩
 refine frameS (K0:=cutK s i) gL_ok 19 rfl ⟨rfl,rfl,trivial⟩ fun Q hr=>?_
 conv=>whnf
 refine loop_by (ι:=Nat) (fun j=>⟨[(0,.p (.str m)),(2,.ptr 0 0 1 0 0),(5,.p (.int .i64 j))],cutK s i⟩)
  (fun j=>j≤s.length∧i+runS m (s.drop i)=j+runS m (s.drop j)) (fun j=>s.length - j) i ⟨AV.le_refl _,AV.le_refl _,AV.le_refl _,trivial⟩ (lesK.refl _) ⟨hi,rfl⟩ ?_
 intro Y hle j ⟨hj,he⟩ ih
 have hd1:decide ((j:Int)<(s.length:Int))=decide (j<s.length):=by
  by_cases h:j<s.length
  ·rw [decide_eq_true h,decide_eq_true (by omega)]
  ·rw [decide_eq_false h,decide_eq_false (by omega)]
 conv=>whnf
 refine two_intro (fun h=>?_) (fun h=>?_)
 ·rw [hd1] at h
  have h:=of_decide_eq_true h
  have hs2:s.drop j=s[j]::s.drop (j+1):=List.drop_eq_getElem_cons h
  rw [hs2,runS_cons] at he
  conv=>whnf
  refine⟨⟨by omega,by omega⟩,?_⟩
  conv=>whnf
  refine⟨_,_,rfl,?_⟩
  conv=>whnf
  have hb:decide (Lib.indexByte m ((byteAt s (Int.toNat j)).toNat.toUInt8)≥0)=inB m s[j]:=by
   rw [u8b,Int.toNat_natCast,List.getD_eq_getElem?_getD,List.getElem?_eq_getElem h];rfl
  refine two_intro (fun h5=>?_) (fun h5=>?_)
  ·rw [hb] at h5
   rw [if_pos h5] at he
   conv=>whnf
   refine hle _ _ (Le.env ?_ (lesK.refl _)) (ih (j+1) (by omega) ⟨by omega,by omega⟩)
   refine⟨AV.le_refl _,AV.le_refl _,AV.le_of_eq ?_,trivial⟩
   show AV.p (.int .i64 (IntKind.i64.wrap ((j:Int)+1)))=.p (.int .i64 ((j+1:Nat):Int))
   rw [w64 (by omega)];rfl
  ·rw [hb] at h5
   rw [if_neg (by rw [h5];exact Bool.false_ne_true)] at he
   conv=>whnf
   rw [he] at hk
   exact hr _ _ rfl (Nat.le_refl _) rfl hk
 ·rw [hd1] at h
  have h:=of_decide_eq_false h
  obtain rfl:j=s.length:=by omega
  rw [List.drop_length] at he
  conv=>whnf
  rw [he] at hk
  exact hr _ _ rfl (Nat.le_refl _) rfl hk
def tokF (l:List Tok) (j:Nat):List PV:=encTok (l.getD j ⟨.name,0,0,[]⟩)
def tokA (l:List Tok):ABlk:=.arr 160 4 0 l.length fun j=>pvs (tokF l j)
def cutV (e:Int):CR→AV
 | .ok l=>.tup [.p (.sl 4 (l.length+1) (encs e l)),.p (.int .i64 0),.p (.int .i64 0)]
 | .bad a=>.tup [.p .nils,.p (.int .i64 (a:Nat)),.p (.int .i64 2)]
def cCutT:AC:=fun args K k=>∃ s,args=[.p (.str s)]∧s.length<1000000 ∧
 (s.length>20000→k (.ret (.tup [.p .nils,.p (.int .i64 0),.p (.int .i64 7)])) K)∧(s.length≤20000→k (.ret (cutV s.length (cutT s))) K)
structure TC where
 l:List Tok
 i:Nat
 n:Nat
def CR.app (l:List Tok):CR→CR
 | .ok l'=>.ok (l++l')
 | .bad a=>.bad a
def gT:AG:=gput 153 cRow (gput 155 cWordT (gput 156 cSignT gI))
theorem gT_ok:GOk Tryz.prog gT:=gput_ok row_ok (gput_ok wordT_ok (gput_ok signT_ok gI_ok))
theorem encs_lt (e:Int) (l:List Tok) (j:Nat) (h:j<l.length):encs e l j=tokF l j:=by
 induction l generalizing j with
 | nil=>simp at h
 | cons t r ih =>
  cases j with
  | zero=>rfl
  | succ j=>exact ih j (by simpa using h)
theorem encs_at (e:Int) (l:List Tok):encs e l l.length=[.int .i64 5,.int .i64 0,.int .i64 e,.str []]:=by
 induction l with
 | nil=>rfl
 | cons t r ih=>exact ih
theorem enc_all (e:Int) (l:List Tok) (f:Nat→List AV) (hf:f 0=pvs [.int .i64 5,.int .i64 0,.int .i64 e,.str []]):∀ j,j<l.length+1→catF l.length (fun j=>pvs (tokF l j)) f j=pvs (encs e l j):=fun j hj=>by
 by_cases h:j<l.length
 ·rw [catF_lt h,encs_lt e l j h]
 ·obtain rfl:j=l.length:=by omega
  rw [catF_ge (Nat.le_refl _),Nat.sub_self,hf,encs_at]
theorem tokA_snoc (l:List Tok) (x:Tok) (f:Nat→List AV) (hf:f 0=pvs (encTok x)):(ABlk.arr 160 4 0 (l.length+1) (catF l.length (fun i=>pvs (tokF l i)) f)).le (tokA (l++[x])):=by
 refine ABlk.arr_eq (by simp) fun i hi=>?_
 by_cases h:i<l.length
 ·rw [catF_lt h]
  simp [tokF,List.getD_eq_getElem?_getD,List.getElem?_append_left h]
 ·obtain rfl:i=l.length:=by omega
  rw [catF_ge (Nat.le_refl _),Nat.sub_self,hf]
  simp [tokF,List.getD_eq_getElem?_getD]
theorem tok_cl (l:List Tok) (x:Tok) (f:Nat→List AV) (n:Nat) (hf:f 0=pvs (encTok x)):(ABlk.arr 160 4 0 (l.length+1) (catF l.length (fun i=>pvs (tokF l i)) f)).cl n:=fun i hi=>by
 by_cases h:i<l.length
 ·rw [catF_lt h];rfl
 ·obtain rfl:i=l.length:=by omega
  rw [catF_ge (Nat.le_refl _),Nat.sub_self,hf];rfl
theorem slr_len (l:List Tok) (x:Tok):AV.slr 2 0 0 (l.length+1)=AV.slr 2 0 0 (l++[x]).length:=by simp
theorem app_cons (l:List Tok) (t:Tok) (r:CR):CR.app l (r.cons t)=CR.app (l++[t]) r:=by
 cases r with
 | ok l'=>simp [CR.cons,CR.app]
 | bad a=>rfl
theorem cutT_ok:COk 102 cCutT:=by
 rintro args K k ⟨s,rfl,hs,hk1,hk2⟩
 refine frame0W gT_ok 19 rfl fun Q hr=>?_
 have hd1:decide ((s.length:Int)>20000)=decide (s.length>20000):=by
  by_cases h:s.length>20000
  ·rw [decide_eq_true h,decide_eq_true (by omega)]
  ·rw [decide_eq_false h,decide_eq_false (by omega)]
 conv=>whnf
 refine two_intro (fun h=>?_) (fun h=>?_)
 ·rw [hd1] at h
  have h:=of_decide_eq_true h
  conv=>whnf
  exact hr _ _ _ _ (Wk1.refl _ _ _) rfl (hk1 h)
 rw [hd1] at h
 have h:=of_decide_eq_false h
 have hk:=hk2 (by omega)
 clear hk1 hk2
 conv=>whnf
 refine loop_nil (ι:=TC) 160 4 (fun j=>pvs (tokF [] j)) (fun i=>⟨[(1,.ptr 0 0 1 0 0),(6,.ptr 1 0 1 0 0),(7,.fn 153 [] [.ptr 1 0 1 0 0,.ptr 0 0 1 0 0]),(5,.slr 2 0 0 i.l.length)],cutK s i.i++[tokA i.l]⟩)
  (fun i=>i.i≤s.length∧s.length≤i.i+i.n∧i.l.length≤i.i∧CR.app i.l (cutS i.n (s.drop i.i) i.i)=cutT s) (fun i=>i.n) ⟨[],0,s.length⟩ (cutK s 0)
  rfl ⟨.inl (AV.le_refl _),.inl (AV.le_refl _),.inl (AV.le_refl _),.inr ⟨rfl,rfl⟩,trivial⟩ (nswK.refl _ _) rfl ⟨Nat.zero_le _,by simp,Nat.le_refl _,?_⟩ ?_
 ·show CR.app [] (cutS s.length s 0)=cutT s
  unfold cutT
  cases cutS s.length s 0<;>rfl
 rintro Y hle ⟨l,i,n⟩ ⟨hi,hn,hl,he⟩ ih
 simp only at hi hn hl he
 have hd2:decide ((i:Int)<(s.length:Int))=decide (i<s.length):=by
  by_cases h:i<s.length
  ·rw [decide_eq_true h,decide_eq_true (by omega)]
  ·rw [decide_eq_false h,decide_eq_false (by omega)]
 conv=>whnf
 refine two_intro (fun h=>?_) (fun h=>?_)
 ·rw [hd2] at h
  have h:=of_decide_eq_true h
  cases n with
  | zero=>omega
  | succ n =>
  have hs2:s.drop i=s[i]::s.drop (i+1):=List.drop_eq_getElem_cons h
  have hrl:∀ m,runS m (s.drop i)≤s.length - i:=fun m=>by
   unfold runS
   refine Nat.le_trans (List.takeWhile_sublist _).length_le ?_
   simp
  conv=>whnf
  refine⟨_,_,_,_,_,rfl,rfl,rfl,hi,hs,?_⟩
  conv=>whnf
  refine⟨_,_,_,_,_,rfl,rfl,rfl,hi,hs,?_⟩
  conv=>whnf
  repeat ((refine And.intro ?_ ?_);(focus ((conv=>whnf);done));conv=>whnf)
  refine two_intro (fun h2=>?_) (fun h2=>?_)
  ·have h2:0<runS blanksT (s.drop i):=by
    have:=of_decide_eq_true h2
    have:((i+runS blanksT (s.drop i):Nat):Int)>(i:Int):=this
    omega
   have hb:=hrl blanksT
   conv=>whnf
   refine⟨_,_,_,_,_,rfl,rfl,rfl,hi,hs,?_⟩
   conv=>whnf
   refine hle _ _ (Le.env ?_ ?_) (ih ⟨l,i+runS blanksT (s.drop i),n⟩ (Nat.lt_succ_self _) ⟨?_,?_,?_,?_⟩)
   ·exact⟨AV.le_refl _,AV.le_refl _,AV.le_refl _,AV.le_refl _,trivial⟩
   ·exact⟨ABlk.le_refl _,ABlk.le_refl _,ABlk.le_refl _,trivial⟩
   ·simp only;omega
   ·simp only;omega
   ·simp only;omega
   ·rw [← he]
    simp only [cutS,hs2]
    rw [hs2] at h2
    rw [if_pos h2,← hs2,List.drop_drop]
  ·have h2:¬ 0<runS blanksT (s.drop i):=by
    have:=of_decide_eq_false h2
    have:¬ ((i+runS blanksT (s.drop i):Nat):Int)>(i:Int):=this
    omega
   conv=>whnf
   refine⟨(⟨by omega,by omega⟩:(0:Int)≤(i:Int)∧(i:Int)<(s.length:Int)),?_⟩
   conv=>whnf
   have hby:byteAt s (Int.toNat i)=(s[i].toNat:Int):=by
    unfold byteAt
    rw [Int.toNat_natCast,List.getD_eq_getElem?_getD,List.getElem?_eq_getElem h];rfl
   simp only [cutS,hs2] at he
   rw [hs2] at h2
   rw [if_neg h2] at he
   refine two_intro (fun h3=>?_) (fun h3=>?_)
   ·have h3:s[i]=35:=by
     have h3:(byteAt s (Int.toNat i)==35)=true:=h3
     rw [hby] at h3
     have:=eq_of_beq h3
     exact UInt8.toNat_inj.1 (by show s[i].toNat=35;omega)
    rw [if_pos h3,← hs2] at he
    conv=>whnf
    refine loop_by (ι:=Nat) (fun j=>⟨[(1,.ptr 0 0 1 0 0),(6,.ptr 1 0 1 0 0),(7,.fn 153 [] [.ptr 1 0 1 0 0,.ptr 0 0 1 0 0]),(5,.slr 2 0 0 l.length)],cutK s j++[tokA l]⟩)
     (fun j=>i≤j∧j≤s.length∧(s.drop i).dropWhile (fun c=>!(c==10))=(s.drop j).dropWhile (fun c=>!(c==10))∧i+((s.drop i).takeWhile (fun c=>!(c==10))).length=j+((s.drop j).takeWhile (fun c=>!(c==10))).length) (fun j=>s.length - j) i
     ?_ ?_ ⟨Nat.le_refl _,hi,rfl,rfl⟩ ?_
    ·exact⟨AV.le_refl _,AV.le_refl _,AV.le_refl _,AV.le_refl _,trivial⟩
    ·exact⟨ABlk.le_refl _,ABlk.le_refl _,ABlk.le_refl _,trivial⟩
    intro Z hle2 j ⟨hij,hj,hdw,htw⟩ ih2
    have hd3:decide ((j:Int)<(s.length:Int))=decide (j<s.length):=by
     by_cases h:j<s.length
     ·rw [decide_eq_true h,decide_eq_true (by omega)]
     ·rw [decide_eq_false h,decide_eq_false (by omega)]
    have fin:∀ j,i<j→j≤s.length→(s.drop i).dropWhile (fun c=>!(c==10))=s.drop j→i+((s.drop i).takeWhile (fun c=>!(c==10))).length=j→(TC.mk l j n).i≤s.length∧s.length≤(TC.mk l j n).i+(TC.mk l j n).n∧(TC.mk l j n).l.length≤(TC.mk l j n).i∧CR.app (TC.mk l j n).l (cutS (TC.mk l j n).n (s.drop (TC.mk l j n).i) (TC.mk l j n).i)=cutT s:=fun j h1 h2 h3 h4=>by
     refine⟨h2,?_,?_,?_⟩
     ·simp only;omega
     ·simp only;omega
     ·rw [← he,h3,h4]
    conv=>whnf
    refine two_intro (fun h4=>?_) (fun h4=>?_)
    ·rw [hd3] at h4
     have h4:=of_decide_eq_true h4
     have hsj:s.drop j=s[j]::s.drop (j+1):=List.drop_eq_getElem_cons h4
     rw [hsj] at hdw htw
     simp only [List.dropWhile_cons,List.takeWhile_cons] at hdw htw
     conv=>whnf
     refine⟨⟨by omega,by omega⟩,?_⟩
     conv=>whnf
     have hby2:byteAt s (Int.toNat j)=(s[j].toNat:Int):=by
      unfold byteAt
      rw [Int.toNat_natCast,List.getD_eq_getElem?_getD,List.getElem?_eq_getElem h4];rfl
     have hb:(byteAt s (Int.toNat j) != 10)=!(s[j]==10):=by
      rw [hby2]
      show (!((s[j].toNat:Int)==10))=_
      congr 1
      rw [Bool.eq_iff_iff]
      simp only [beq_iff_eq]
      constructor
      ·intro h
       exact UInt8.toNat_inj.1 (by show s[j].toNat=10;omega)
      ·intro h;rw [h];rfl
     refine two_intro (fun h5=>?_) (fun h5=>?_)
     ·have h5:(!(s[j]==10))=true:=by rw [← hb];exact h5
      rw [if_pos h5] at hdw htw
      conv=>whnf
      refine hle2 _ _ (Le.env ?_ ?_) (ih2 (j+1) (by omega) ⟨by omega,by omega,hdw,?_⟩)
      ·exact⟨AV.le_refl _,AV.le_refl _,AV.le_refl _,AV.le_refl _,trivial⟩
      ·refine⟨ABlk.le_refl _,ABlk.le_of_eq ?_,ABlk.le_refl _,trivial⟩
       show ABlk.box 3 [.p (.int .i64 (IntKind.i64.wrap ((j:Int)+1)))]=_
       rw [w64 (by omega)];rfl
      ·simp only [List.length_cons] at htw;omega
     ·have h5:(!(s[j]==10))=false:=by rw [← hb];exact h5
      rw [if_neg (by rw [h5];exact Bool.false_ne_true)] at hdw htw
      have hij2:i<j:=by
       rcases Nat.lt_or_ge i j with h|h
       ·exact h
       ·exfalso
        have:i=j:=by omega
        subst this
        rw [h3] at h5;simp at h5
      conv=>whnf
      refine hle _ _ (Le.env ?_ ?_) (ih ⟨l,j,n⟩ (Nat.lt_succ_self _) (fin j hij2 hj (by rw [hdw,hsj]) (by simpa using htw)))
      ·exact⟨AV.le_refl _,AV.le_refl _,AV.le_refl _,AV.le_refl _,trivial⟩
      ·exact⟨ABlk.le_refl _,ABlk.le_refl _,ABlk.le_refl _,trivial⟩
    ·rw [hd3] at h4
     have h4:=of_decide_eq_false h4
     obtain rfl:j=s.length:=by omega
     conv=>whnf
     refine hle _ _ (Le.env ?_ ?_) (ih ⟨l,s.length,n⟩ (Nat.lt_succ_self _) (fin s.length h hj (by rw [hdw];simp) (by simpa using htw)))
     ·exact⟨AV.le_refl _,AV.le_refl _,AV.le_refl _,AV.le_refl _,trivial⟩
     ·exact⟨ABlk.le_refl _,ABlk.le_refl _,ABlk.le_refl _,trivial⟩
   have h3:¬ s[i]=35:=fun e=>by
    have h3:(byteAt s (Int.toNat i)==35)=false:=h3
    rw [hby,e] at h3
    simp at h3
   rw [if_neg h3,← hs2] at he
   conv=>whnf
   refine two_intro (fun h4=>?_) (fun h4=>?_)
   ·have h4:0<runS partsT (s.drop i):=by
     have:=of_decide_eq_true h4
     have:((i+runS partsT (s.drop i):Nat):Int)>(i:Int):=this
     omega
    rw [if_pos h4] at he
    conv=>whnf
    have hp:=hrl partsT
    refine⟨(⟨by omega,by omega,by omega⟩:(0:Int)≤(i:Int)∧(i:Int)≤((i+runS partsT (s.drop i):Nat):Int)∧((i+runS partsT (s.drop i):Nat):Int)≤(s.length:Int)),?_⟩
    conv=>whnf
    have hw:(s.take (Int.toNat ((i+runS partsT (s.drop i):Nat):Int))).drop (Int.toNat (i:Int))=(s.drop i).take (runS partsT (s.drop i)):=by
     rw [Int.toNat_natCast,Int.toNat_natCast,List.drop_take,Nat.add_sub_cancel_left]
    have hwl:((s.drop i).take (runS partsT (s.drop i))).length<1000000:=by
     simp only [List.length_take,List.length_drop];omega
    have hsb:(0:Int)≤(i:Int)∧(i:Int)≤((i+runS partsT (s.drop i):Nat):Int)∧((i+runS partsT (s.drop i):Nat):Int)≤(s.length:Int):=⟨by omega,by omega,by omega⟩
    refine⟨?_,?_⟩
    ·conv=>whnf
     refine⟨(s.drop i).take (runS partsT (s.drop i)),(i:Int),congrArg (fun w=>[AV.p (PV.str w),AV.p (PV.int .i64 (i:Int))]) hw,hwl,?_⟩
     cases hwp:wordP ((s.drop i).take (runS partsT (s.drop i))) with
     | none =>
      rw [hwp] at he
      have hct:cutT s=.bad i:=by rw [← he];rfl
      rw [hct] at hk
      conv=>whnf
      repeat ((refine And.intro ?_ ?_);(focus ((conv=>whnf);done));conv=>whnf)
      first|((refine⟨⟨hsb,rfl⟩,?_⟩);(conv=>whnf);repeat ((refine And.intro ?_ ?_);(focus ((conv=>whnf);done));conv=>whnf))|skip
      exact hr _ _ _ _ (Wk1.refl _ _ _) rfl hk
     | some q =>
      obtain⟨kd,v⟩:=q
      rw [hwp] at he
      simp only at he
      conv=>whnf
      repeat ((refine And.intro ?_ ?_);(focus ((conv=>whnf);done));conv=>whnf)
      first|((refine⟨⟨hsb,rfl⟩,?_⟩);(conv=>whnf);repeat ((refine And.intro ?_ ?_);(focus ((conv=>whnf);done));conv=>whnf))|skip
      refine⟨⟨rfl,rfl,rfl,allLt_ok ⟨trivial,rfl⟩⟩,?_⟩
      conv=>whnf
      refine⟨⟨rfl,rfl,rfl,rfl,?_,?_⟩,?_⟩
      ·show (l.length+1)*40≤140737488355328
       omega
      ·show l.length+1≤9223372036854775807
       omega
      conv=>whnf
      refine hle _ _ (Le.cutEnv 3 rfl rfl ⟨rfl,rfl,?_,trivial⟩ ?_ ?_) (ih ⟨l++[⟨kd,v,i,(s.drop i).take (runS partsT (s.drop i))⟩],i+runS partsT (s.drop i),n⟩ (Nat.lt_succ_self _) ⟨?_,?_,?_,?_⟩)
      ·exact tok_cl l ⟨kd,v,i,(s.drop i).take (runS partsT (s.drop i))⟩ _ 3 rfl
      ·exact⟨AV.le_refl _,AV.le_refl _,AV.le_refl _,AV.le_of_eq (slr_len _ _),trivial⟩
      ·exact⟨ABlk.le_refl _,ABlk.le_refl _,tokA_snoc l ⟨kd,v,i,(s.drop i).take (runS partsT (s.drop i))⟩ _ rfl,trivial⟩
      ·simp only;omega
      ·simp only;omega
      ·simp only [List.length_append,List.length_cons,List.length_nil];omega
      ·rw [← he,app_cons,List.drop_drop]
    ·conv=>whnf
     repeat ((refine And.intro ?_ ?_);(focus ((conv=>whnf);done));conv=>whnf)
     refine⟨⟨hsb,rfl⟩,?_⟩
     conv=>whnf
     repeat ((refine And.intro ?_ ?_);(focus ((conv=>whnf);done));conv=>whnf)
     refine⟨(s.drop i).take (runS partsT (s.drop i)),(i:Int),congrArg (fun w=>[AV.p (PV.str w),AV.p (PV.int .i64 (i:Int))]) hw,hwl,?_⟩
     cases hwp:wordP ((s.drop i).take (runS partsT (s.drop i))) with
     | none =>
      rw [hwp] at he
      have hct:cutT s=.bad i:=by rw [← he];rfl
      rw [hct] at hk
      conv=>whnf
      repeat ((refine And.intro ?_ ?_);(focus ((conv=>whnf);done));conv=>whnf)
      first|((refine⟨⟨hsb,rfl⟩,?_⟩);(conv=>whnf);repeat ((refine And.intro ?_ ?_);(focus ((conv=>whnf);done));conv=>whnf))|skip
      exact hr _ _ _ _ (Wk1.refl _ _ _) rfl hk
     | some q =>
      obtain⟨kd,v⟩:=q
      rw [hwp] at he
      simp only at he
      conv=>whnf
      repeat ((refine And.intro ?_ ?_);(focus ((conv=>whnf);done));conv=>whnf)
      first|((refine⟨⟨hsb,rfl⟩,?_⟩);(conv=>whnf);repeat ((refine And.intro ?_ ?_);(focus ((conv=>whnf);done));conv=>whnf))|skip
      refine⟨⟨rfl,rfl,rfl,allLt_ok ⟨trivial,rfl⟩⟩,?_⟩
      conv=>whnf
      refine⟨⟨rfl,rfl,rfl,rfl,?_,?_⟩,?_⟩
      ·show (l.length+1)*40≤140737488355328
       omega
      ·show l.length+1≤9223372036854775807
       omega
      conv=>whnf
      refine hle _ _ (Le.cutEnv 3 rfl rfl ⟨rfl,rfl,?_,trivial⟩ ?_ ?_) (ih ⟨l++[⟨kd,v,i,(s.drop i).take (runS partsT (s.drop i))⟩],i+runS partsT (s.drop i),n⟩ (Nat.lt_succ_self _) ⟨?_,?_,?_,?_⟩)
      ·exact tok_cl l ⟨kd,v,i,(s.drop i).take (runS partsT (s.drop i))⟩ _ 3 rfl
      ·exact⟨AV.le_refl _,AV.le_refl _,AV.le_refl _,AV.le_of_eq (slr_len _ _),trivial⟩
      ·exact⟨ABlk.le_refl _,ABlk.le_refl _,tokA_snoc l ⟨kd,v,i,(s.drop i).take (runS partsT (s.drop i))⟩ _ rfl,trivial⟩
      ·simp only;omega
      ·simp only;omega
      ·simp only [List.length_append,List.length_cons,List.length_nil];omega
      ·rw [← he,app_cons,List.drop_drop]
   ·have h4:¬ 0<runS partsT (s.drop i):=by
     have:=of_decide_eq_false h4
     have:¬ ((i+runS partsT (s.drop i):Nat):Int)>(i:Int):=this
     omega
    rw [if_neg h4] at he
    conv=>whnf
    refine⟨(⟨by omega,(by show (i:Int)≤(s.length:Int);omega),Int.le_refl _⟩:(0:Int)≤(i:Int)∧(i:Int)≤Int.ofNat s.length∧Int.ofNat s.length≤(s.length:Int)),?_⟩
    conv=>whnf
    have hw:(s.take (Int.toNat (Int.ofNat s.length))).drop (Int.toNat (i:Int))=s.drop i:=by
     have e1:Int.toNat (Int.ofNat s.length)=s.length:=rfl
     rw [e1,Int.toNat_natCast,List.take_length]
    refine⟨s.drop i,congrArg (fun w=>[AV.p (PV.str w)]) hw,?_,?_,?_⟩
    ·simp only [List.length_drop];omega
    ·simp only [List.length_drop];omega
    have hsl:signP (s.drop i)≤s.length - i:=by
     unfold signP
     split
     ·rename_i hpp
      simp only [pairP,Bool.and_eq_true,decide_eq_true_eq,List.length_drop] at hpp
      omega
     ·split<;>omega
    generalize hsg:signP (s.drop i)=m at he hsl ⊢
    conv=>whnf
    refine two_intro (fun h5=>?_) (fun h5=>?_)
    ·have h5:m=0:=by
      have h5:((m:Int)==0)=true:=h5
      have:=eq_of_beq h5
      omega
     subst h5
     have hct:cutT s=.bad i:=by rw [← he];rfl
     rw [hct] at hk
     conv=>whnf
     exact hr _ _ _ _ (Wk1.refl _ _ _) rfl hk
    ·cases m with
     | zero=>exact absurd h5 (by simp)
     | succ m =>
     simp only at he
     conv=>whnf
     refine⟨(⟨by omega,?_,?_⟩:(0:Int)≤(i:Int)∧(i:Int)≤IntKind.i64.wrap ((i:Int)+((m+1:Nat):Int))∧IntKind.i64.wrap ((i:Int)+((m+1:Nat):Int))≤(s.length:Int)),?_⟩
     ·rw [w64 (by omega)];omega
     ·rw [w64 (by omega)];omega
     conv=>whnf
     repeat ((refine And.intro ?_ ?_);(focus ((conv=>whnf);done));conv=>whnf)
     have hw2:(s.take (Int.toNat (IntKind.i64.wrap ((i:Int)+((m+1:Nat):Int))))).drop (Int.toNat (i:Int))=(s.drop i).take (m+1):=by
      rw [w64 (by omega)]
      have e1:Int.toNat ((i:Int)+((m+1:Nat):Int))=i+(m+1):=by omega
      rw [e1,Int.toNat_natCast,List.drop_take,Nat.add_sub_cancel_left]
     have hcells:=congrArg (fun w=>[AV.p (.int .i64 3),AV.p (.int .i64 0),AV.p (.int .i64 (i:Int)),AV.p (.str w)]) hw2
     refine⟨⟨rfl,rfl,rfl,allLt_ok ⟨trivial,rfl⟩⟩,?_⟩
     conv=>whnf
     refine⟨⟨rfl,rfl,rfl,rfl,?_,?_⟩,?_⟩
     ·show (l.length+1)*40≤140737488355328
      omega
     ·show l.length+1≤9223372036854775807
      omega
     conv=>whnf
     repeat ((refine And.intro ?_ ?_);(focus ((conv=>whnf);done));conv=>whnf)
     refine hle _ _ (Le.cutEnv 3 rfl rfl ⟨rfl,rfl,?_,trivial⟩ ?_ ?_) (ih ⟨l++[⟨.sign,0,i,(s.drop i).take (m+1)⟩],i+(m+1),n⟩ (Nat.lt_succ_self _) ⟨?_,?_,?_,?_⟩)
     ·exact tok_cl l ⟨.sign,0,i,(s.drop i).take (m+1)⟩ _ 3 hcells
     ·exact⟨AV.le_refl _,AV.le_refl _,AV.le_refl _,AV.le_of_eq (slr_len _ _),trivial⟩
     ·refine⟨ABlk.le_refl _,ABlk.le_of_eq ?_,tokA_snoc l ⟨.sign,0,i,(s.drop i).take (m+1)⟩ _ hcells,trivial⟩
      show ABlk.box 3 [.p (.int .i64 (IntKind.i64.wrap ((i:Int)+((m+1:Nat):Int))))]=_
      rw [w64 (by omega)];rfl
     ·simp only;omega
     ·simp only;omega
     ·simp only [List.length_append,List.length_cons,List.length_nil];omega
     ·rw [← he,app_cons,List.drop_drop]
 ·rw [hd2] at h
  have h:=of_decide_eq_false h
  obtain rfl:i=s.length:=by omega
  rw [List.drop_length] at he
  have hct:cutT s=.ok l:=by
   rw [← he]
   cases n<;>simp [cutS,CR.app]
  rw [hct] at hk
  conv=>whnf
  refine⟨⟨rfl,rfl,rfl,allLt_ok ⟨trivial,rfl⟩⟩,?_⟩
  conv=>whnf
  refine⟨⟨rfl,rfl,rfl,rfl,?_,?_⟩,?_⟩
  ·show (l.length+1)*40≤140737488355328
   omega
  ·show l.length+1≤9223372036854775807
   omega
  conv=>whnf
  exact hr _ _ _ _ (Wk1.tup_freeze1 (r:=2) rfl (encs s.length l) (enc_all _ _ _ rfl)) rfl hk
end Go.Proofs.YtcmepkfefoidcaaGreatDoor
namespace Go.AE
def rst (t:List (Nat×AV)):List Nat→List (Nat×AV)
 | []=>[]
 | d::l=>(d,look t d)::rst t l
def upK (K:List ABlk):List (Nat×ABlk)→List ABlk
 | []=>K
 | (r,b)::l=>setN (upK K l) r b
def upLe (K:List ABlk):List (Nat×ABlk)→Prop
 | []=>True
 | (r,b)::l=>(∀ b0,nth K r=some b0→b0.le b)∧upLe K l
theorem subE_append {t a b:List (Nat×AV)} (h:subE t a) (h':subE t b):subE t (a++b):=by
 induction a with
 | nil=>exact h'
 | cons x l ih=>exact⟨h.1,ih h.2⟩
theorem subE_rst (t:List (Nat×AV)) (l:List Nat):subE t (rst t l):=by
 induction l with
 | nil=>trivial
 | cons d l ih=>exact⟨AV.le_refl _,ih⟩
theorem lesK_setN {K K':List ABlk} (h:lesK K K'):∀ (r:Nat) (b:ABlk),(∀ b0,nth K r=some b0→b0.le b)→lesK K (setN K' r b):=by
 induction K generalizing K' with
 | nil =>
  intro r b _
  cases K' with
  | nil=>exact h
  | cons a l=>exact h.elim
 | cons a l ih =>
  intro r b hb
  cases K' with
  | nil=>exact h.elim
  | cons a' l' =>
   cases r with
   | zero=>exact⟨hb a rfl,h.2⟩
   | succ r=>exact⟨h.1,ih h.2 r b hb⟩
theorem lesK_up {K:List ABlk} {l:List (Nat×ABlk)} (h:upLe K l):lesK K (upK K l):=by
 induction l with
 | nil=>exact lesK.refl K
 | cons x l ih=>exact lesK_setN (ih h.2) _ _ h.1
theorem loop_up {kb:Nat} {F:AS→(Ex→AS→Prop)→Prop} {Q:Ex→AS→Prop} {t:List (Nat×AV)} {K:List ABlk} {ι:Type} (keep:List Nat) (ts:ι→List (Nat×AV)) (up:ι→List (Nat×ABlk)) (Pre:ι→Prop) (μ:ι→Nat) (i:ι)
  (ht:subE t (ts i)) (hK:upLe K (up i)) (hi:Pre i)
  (h:∀ (X:AS→Prop),(∀ s s',Le kb s s'→X s'→X s)→∀ i,Pre i→(∀ j,μ j<μ i→Pre j→X ⟨ts j++rst t keep,upK K (up j)⟩)→F ⟨ts i++rst t keep,upK K (up i)⟩ (fun e s'=>match e with | .norm=>X s'|e=>Q e s')) :
  LoopW kb F ⟨t,K⟩ Q :=
 loop_by (fun i=>⟨ts i++rst t keep,upK K (up i)⟩) Pre μ i (subE_append ht (subE_rst t keep)) (lesK_up hK) hi h
theorem upLe1 {K:List ABlk} {r:Nat} {b0 b:ABlk} (h0:nth K r=some b0) (h:b0.le b):∀ b1,nth K r=some b1→b1.le b:=fun b1 h1=>by
 rw [h0] at h1;injection h1 with h1;rw [← h1];exact h
end Go.AE
namespace Go.AE
section
variable {P:Program} {T:Tab}
mutual
def AV.up (n:Nat):AV→AV
 | .ptr r ver k i off=>.ptr (r+n) ver k i off
 | .slr r ver off k=>.slr (r+n) ver off k
 | .fn f a b=>.fn f (AV.ups n a) (AV.ups n b)
 | .iface t v=>.iface t (AV.up n v)
 | .agg l=>.agg (AV.ups n l)
 | .tup l=>.tup (AV.ups n l)
 | .yld r=>.yld (r+n)
 | .mref r=>.mref (r+n)
 | .p v=>.p v
 | .rop cs off=>.rop cs off
 | .junk=>.junk
def AV.ups (n:Nat):List AV→List AV
 | []=>[]
 | a::l=>AV.up n a::AV.ups n l
end
mutual
def AV.dn (n:Nat):AV→AV
 | .ptr r ver k i off=>match Nat.ble n r with
  | true=>.ptr (Nat.sub r n) ver k i off
  | false=>.junk
 | .slr r ver off k=>match Nat.ble n r with
  | true=>.slr (Nat.sub r n) ver off k
  | false=>.junk
 | .fn f a b=>.fn f (AV.dns n a) (AV.dns n b)
 | .iface t v=>.iface t (AV.dn n v)
 | .agg l=>.agg (AV.dns n l)
 | .tup l=>.tup (AV.dns n l)
 | .yld r=>match Nat.ble n r with
  | true=>.yld (Nat.sub r n)
  | false=>.junk
 | .mref r=>match Nat.ble n r with
  | true=>.mref (Nat.sub r n)
  | false=>.junk
 | .p v=>.p v
 | .rop cs off=>.rop cs off
 | .junk=>.junk
def AV.dns (n:Nat):List AV→List AV
 | []=>[]
 | a::l=>AV.dn n a::AV.dns n l
end
theorem AV.ups_len (n:Nat) (l:List AV):(AV.ups n l).length=l.length:=by
 induction l with
 | nil=>rfl
 | cons a l ih=>simp [AV.ups,ih]
theorem AV.dns_len (n:Nat) (l:List AV):(AV.dns n l).length=l.length:=by
 induction l with
 | nil=>rfl
 | cons a l ih=>simp [AV.dns,ih]
theorem AV.ups_get (n:Nat) (l:List AV) (j:Nat) (hj:j<(AV.ups n l).length):(AV.ups n l)[j]=AV.up n (l[j]'(by rw [AV.ups_len] at hj;exact hj)):=by
 induction l generalizing j with
 | nil=>simp [AV.ups] at hj
 | cons a l ih =>
  cases j with
  | zero=>rfl
  | succ j=>simpa [AV.ups] using ih j (by simpa [AV.ups] using hj)
theorem AV.dns_get (n:Nat) (l:List AV) (j:Nat) (hj:j<(AV.dns n l).length):(AV.dns n l)[j]=AV.dn n (l[j]'(by rw [AV.dns_len] at hj;exact hj)):=by
 induction l generalizing j with
 | nil=>simp [AV.dns] at hj
 | cons a l ih =>
  cases j with
  | zero=>rfl
  | succ j=>simpa [AV.dns] using ih j (by simpa [AV.dns] using hj)
def Mp.dn (n:Nat) (m:Mp):Mp:=⟨fun r=>m.ρ (r+n),m.I,fun r=>m.L (r+n)⟩
def Mp.ups (n:Nat) (m m':Mp):Mp:=⟨fun r=>if r<n then m.ρ r else m'.ρ (r - n),m'.I,fun r=>if r<n then m.L r else m'.L (r - n)⟩
theorem V.dn {w:World} {m:Mp} {a:AV} {u:Value} (n:Nat) (h:V w m a u):V w (m.dn n) (a.dn n) u:=by
 induction h with
 | p v u h=>exact .p v u h
 | ptr r ver k i off sz cap h hi =>
  simp only [AV.dn]
  split
  ·rename_i hb
   have hb:=Nat.le_of_ble_eq_true hb
   have e:Nat.sub r n+n=r:=by simp only [Nat.sub_eq];omega
   have:=V.ptr (w:=w) (m:=m.dn n) (Nat.sub r n) ver k i off sz cap (by simp only [Mp.dn,e,h]) hi
   simp only [Mp.dn,e] at this ⊢
   exact this
  ·exact .junk _
 | ptrOld r ver k i off b o h =>
  simp only [AV.dn]
  split
  ·rename_i hb
   have hb:=Nat.le_of_ble_eq_true hb
   have e:Nat.sub r n+n=r:=by simp only [Nat.sub_eq];omega
   exact .ptrOld (m:=m.dn n) _ ver k i off b o (by simp only [Mp.dn,e];exact h)
  ·exact .junk _
 | slr r ver off k N sz cap h hn =>
  simp only [AV.dn]
  split
  ·rename_i hb
   have hb:=Nat.le_of_ble_eq_true hb
   have e:Nat.sub r n+n=r:=by simp only [Nat.sub_eq];omega
   have:=V.slr (w:=w) (m:=m.dn n) (Nat.sub r n) ver off k N sz cap (by simp only [Mp.dn,e,h]) hn
   simp only [Mp.dn,e] at this ⊢
   exact this
  ·exact .junk _
 | slrNil r ver a h =>
  simp only [AV.dn]
  split
  ·rename_i hb
   have hb:=Nat.le_of_ble_eq_true hb
   have e:Nat.sub r n+n=r:=by simp only [Nat.sub_eq];omega
   exact .slrNil (m:=m.dn n) _ ver a (by simp only [Mp.dn,e,h])
  ·exact .junk _
 | slrEnd r ver N sz cap a h =>
  simp only [AV.dn]
  split
  ·rename_i hb
   have hb:=Nat.le_of_ble_eq_true hb
   have e:Nat.sub r n+n=r:=by simp only [Nat.sub_eq];omega
   exact .slrEnd (m:=m.dn n) _ ver N sz cap a (by simp only [Mp.dn,e,h])
  ·exact .junk _
 | slrOld r ver off k ad c h =>
  simp only [AV.dn]
  split
  ·rename_i hb
   have hb:=Nat.le_of_ble_eq_true hb
   have e:Nat.sub r n+n=r:=by simp only [Nat.sub_eq];omega
   exact .slrOld (m:=m.dn n) _ ver off k ad c (by simp only [Mp.dn,e];exact h)
  ·exact .junk _
 | rop cs off b o u hb h1 h2=>exact .rop (m:=m.dn n) cs off b o u hb h1 h2
 | fn f first cap A B hA hB h1 h2 ih1 ih2 =>
  exact .fn f _ _ A B (by rw [AV.dns_len];exact hA) (by rw [AV.dns_len];exact hB) (fun j hj hj'=>by rw [AV.dns_get];exact ih1 j _ hj') (fun j hj hj'=>by rw [AV.dns_get];exact ih2 j _ hj')
 | iface t v u h ih=>exact .iface t _ u ih
 | agg cs A hA h ih=>exact .agg _ A (by rw [AV.dns_len];exact hA) (fun j hj hj'=>by rw [AV.dns_get];exact ih j _ hj')
 | tup cs A hA h ih=>exact .tup _ A (by rw [AV.dns_len];exact hA) (fun j hj hj'=>by rw [AV.dns_get];exact ih j _ hj')
 | yld r sz cap h =>
  simp only [AV.dn]
  split
  ·rename_i hb
   have hb:=Nat.le_of_ble_eq_true hb
   have e:Nat.sub r n+n=r:=by simp only [Nat.sub_eq];omega
   have:=V.yld (w:=w) (m:=m.dn n) (Nat.sub r n) sz cap (by simp only [Mp.dn,e,h])
   simp only [Mp.dn,e] at this ⊢
   exact this
  ·exact .junk _
 | yldOld r b h =>
  simp only [AV.dn]
  split
  ·rename_i hb
   have hb:=Nat.le_of_ble_eq_true hb
   have e:Nat.sub r n+n=r:=by simp only [Nat.sub_eq];omega
   exact .yldOld (m:=m.dn n) _ b (by simp only [Mp.dn,e];exact h)
  ·exact .junk _
 | mref r sz cap h =>
  simp only [AV.dn]
  split
  ·rename_i hb
   have hb:=Nat.le_of_ble_eq_true hb
   have e:Nat.sub r n+n=r:=by simp only [Nat.sub_eq];omega
   have:=V.mref (w:=w) (m:=m.dn n) (Nat.sub r n) sz cap (by simp only [Mp.dn,e,h])
   simp only [Mp.dn,e] at this ⊢
   exact this
  ·exact .junk _
 | mrefOld r b h =>
  simp only [AV.dn]
  split
  ·rename_i hb
   have hb:=Nat.le_of_ble_eq_true hb
   have e:Nat.sub r n+n=r:=by simp only [Nat.sub_eq];omega
   exact .mrefOld (m:=m.dn n) _ b (by simp only [Mp.dn,e];exact h)
  ·exact .junk _
 | junk u=>exact .junk u
theorem V.ups {w:World} {m0 m:Mp} {a:AV} {u:Value} (n:Nat) (h:V w m a u):V w (m0.ups n m) (a.up n) u:=by
 have hL:∀ r,(m0.ups n m).L (r+n)=m.L r:=fun r=>by simp [Mp.ups,show ¬ (r+n<n) by omega]
 have hρ:∀ r,(m0.ups n m).ρ (r+n)=m.ρ r:=fun r=>by simp [Mp.ups,show ¬ (r+n<n) by omega]
 induction h with
 | p v u h=>exact .p v u h
 | ptr r ver k i off sz cap h hi =>
  have:=V.ptr (w:=w) (m:=m0.ups n m) (r+n) ver k i off sz cap (by rw [hL,h]) hi
  rwa [hρ] at this
 | ptrOld r ver k i off b o h=>exact .ptrOld (m:=m0.ups n m) _ ver k i off b o (by rw [hL];exact h)
 | slr r ver off k N sz cap h hn =>
  have:=V.slr (w:=w) (m:=m0.ups n m) (r+n) ver off k N sz cap (by rw [hL,h]) hn
  rwa [hρ] at this
 | slrNil r ver a h=>exact .slrNil (m:=m0.ups n m) _ ver a (by rw [hL,h])
 | slrEnd r ver N sz cap a h=>exact .slrEnd (m:=m0.ups n m) _ ver N sz cap a (by rw [hL,h])
 | slrOld r ver off k ad c h=>exact .slrOld (m:=m0.ups n m) _ ver off k ad c (by rw [hL];exact h)
 | rop cs off b o u hb h1 h2=>exact .rop (m:=m0.ups n m) cs off b o u hb h1 h2
 | fn f first cap A B hA hB h1 h2 ih1 ih2 =>
  exact .fn f _ _ A B (by rw [AV.ups_len];exact hA) (by rw [AV.ups_len];exact hB) (fun j hj hj'=>by rw [AV.ups_get];exact ih1 j _ hj') (fun j hj hj'=>by rw [AV.ups_get];exact ih2 j _ hj')
 | iface t v u h ih=>exact .iface t _ u ih
 | agg cs A hA h ih=>exact .agg _ A (by rw [AV.ups_len];exact hA) (fun j hj hj'=>by rw [AV.ups_get];exact ih j _ hj')
 | tup cs A hA h ih=>exact .tup _ A (by rw [AV.ups_len];exact hA) (fun j hj hj'=>by rw [AV.ups_get];exact ih j _ hj')
 | yld r sz cap h =>
  have:=V.yld (w:=w) (m:=m0.ups n m) (r+n) sz cap (by rw [hL,h])
  rwa [hρ] at this
 | yldOld r b h=>exact .yldOld (m:=m0.ups n m) _ b (by rw [hL];exact h)
 | mref r sz cap h =>
  have:=V.mref (w:=w) (m:=m0.ups n m) (r+n) sz cap (by rw [hL,h])
  rwa [hρ] at this
 | mrefOld r b h=>exact .mrefOld (m:=m0.ups n m) _ b (by rw [hL];exact h)
 | junk u=>exact .junk u
def upO (n:Nat):Option AV→Option AV
 | none=>none
 | some a=>some (a.up n)
def dnO (n:Nat):Option AV→Option AV
 | none=>none
 | some a=>some (a.dn n)
theorem MpOk.re {V' V2:AV→Value→Prop} {kt:KT} {es:List MapEntry} {clock:Nat} {g g':MK→Option AV} {st:List (MK×Nat)} {r:MK→Option (Nat×Value)} (h:MpOk V' kt es clock g st r)
  (h0:∀ κ,g' κ=none→g κ=none) (hV:∀ κ a',g' κ=some a'→∃ a,g κ=some a∧∀ u,V' a u→V2 a' u):MpOk V2 kt es clock g' st r :=
 ⟨h.is,fun κ hk hg=>h.no κ hk (h0 κ hg),fun κ a' hk hg=>let ⟨a,h1,h2⟩:=hV κ a' hg;let ⟨i,u,h3,h4⟩:=h.yes κ a hk h1;⟨i,u,h3,h2 u h4⟩,h.st⟩
def ABlk.up (n:Nat):ABlk→ABlk
 | .box ty cs=>.box ty (AV.ups n cs)
 | .arr ty sz ver k f=>.arr ty sz ver k fun i=>AV.ups n (f i)
 | .mp kt g st=>.mp kt (fun κ=>upO n (g κ)) st
 | b=>b
def ABlk.dn (n:Nat):ABlk→ABlk
 | .box ty cs=>.box ty (AV.dns n cs)
 | .arr ty sz ver k f=>.arr ty sz ver k fun i=>AV.dns n (f i)
 | .mp kt g st=>.mp kt (fun κ=>dnO n (g κ)) st
 | b=>b
def ABlk.nl:ABlk→Prop
 | .lp _ _ _ _ _ _=>False
 | _=>True
def upsB (n:Nat):List ABlk→List ABlk
 | []=>[]
 | b::l=>b.up n::upsB n l
def dnsB (n:Nat):List ABlk→List ABlk
 | []=>[]
 | b::l=>b.dn n::dnsB n l
def nlK:List ABlk→Prop
 | []=>True
 | b::l=>b.nl∧nlK l
def AO.up (n:Nat):AO→AO
 | .ret a=>.ret (a.up n)
 | .pan a=>.pan (a.up n)
theorem hp_dns (n:Nat) (K:List ABlk) (r:Nat):hp (dnsB n K) r=(hp K r).dn n:=by
 induction K generalizing r with
 | nil=>rfl
 | cons b K ih =>
  cases r with
  | zero=>rfl
  | succ r=>exact ih r
theorem hp_ups (n:Nat) (K:List ABlk) (r:Nat):hp (upsB n K) r=(hp K r).up n:=by
 induction K generalizing r with
 | nil=>rfl
 | cons b K ih =>
  cases r with
  | zero=>rfl
  | succ r=>exact ih r
theorem nlK.hp {K:List ABlk} (h:nlK K) (r:Nat):(hp K r).nl:=by
 induction K generalizing r with
 | nil=>trivial
 | cons b K ih =>
  cases r with
  | zero=>exact h.1
  | succ r=>exact ih h.2 r
theorem BlkOk.dn {w:World} {m:Mp} {l:Inf} {g:Nat} {b:ABlk} (n:Nat) (hn:b.nl) (h:BlkOk w m l g b):BlkOk w (m.dn n) l g (b.dn n):=by
 cases b with
 | absent=>exact h
 | dead=>exact h
 | box ty cs =>
  obtain⟨hl,c,h1,h2,h3⟩:=h
  refine⟨by rw [AV.dns_len];exact hl,c,h1,by rw [AV.dns_len];exact h2,fun j hj=>?_⟩
  rw [AV.dns_get]
  obtain⟨u,a,b⟩:=h3 j (by rw [AV.dns_len] at hj;exact hj)
  exact⟨u,a,b.dn n⟩
 | arr ty sz ver k f =>
  rcases h with h|⟨cap,c,hl,h0,h00,h1,h2,h3⟩
  ·exact .inl h
  refine .inr ⟨cap,c,hl,h0,h00,h1,h2,fun i hi=>⟨by rw [AV.dns_len];exact (h3 i hi).1,fun j hj=>?_⟩⟩
  rw [AV.dns_get]
  obtain⟨u,a,b⟩:=(h3 i hi).2 j (by rw [AV.dns_len] at hj;exact hj)
  exact⟨u,a,b.dn n⟩
 | lp=>exact hn.elim
 | mp kt q st =>
  obtain⟨hl,es,clock,r,h1,h2⟩:=h
  refine⟨hl,es,clock,r,h1,h2.re (fun κ hg=>?_) fun κ a' hg=>?_⟩
  ·cases hq:q κ with
   | none=>rfl
   | some a=>simp [dnO,hq] at hg
  ·cases hq:q κ with
   | none=>simp [dnO,hq] at hg
   | some a =>
    simp only [dnO,hq,Option.some.injEq] at hg
    subst hg
    exact⟨a,rfl,fun u hv=>hv.dn n⟩
theorem BlkOk.ups {w:World} {m0 m:Mp} {l:Inf} {g:Nat} {b:ABlk} (n:Nat) (hn:b.nl) (h:BlkOk w m l g b):BlkOk w (m0.ups n m) l g (b.up n):=by
 cases b with
 | absent=>exact h
 | dead=>exact h
 | box ty cs =>
  obtain⟨hl,c,h1,h2,h3⟩:=h
  refine⟨by rw [AV.ups_len];exact hl,c,h1,by rw [AV.ups_len];exact h2,fun j hj=>?_⟩
  rw [AV.ups_get]
  obtain⟨u,a,b⟩:=h3 j (by rw [AV.ups_len] at hj;exact hj)
  exact⟨u,a,b.ups n⟩
 | arr ty sz ver k f =>
  rcases h with h|⟨cap,c,hl,h0,h00,h1,h2,h3⟩
  ·exact .inl h
  refine .inr ⟨cap,c,hl,h0,h00,h1,h2,fun i hi=>⟨by rw [AV.ups_len];exact (h3 i hi).1,fun j hj=>?_⟩⟩
  rw [AV.ups_get]
  obtain⟨u,a,b⟩:=(h3 i hi).2 j (by rw [AV.ups_len] at hj;exact hj)
  exact⟨u,a,b.ups n⟩
 | lp=>exact hn.elim
 | mp kt q st =>
  obtain⟨hl,es,clock,r,h1,h2⟩:=h
  refine⟨hl,es,clock,r,h1,h2.re (fun κ hg=>?_) fun κ a' hg=>?_⟩
  ·cases hq:q κ with
   | none=>rfl
   | some a=>simp [upO,hq] at hg
  ·cases hq:q κ with
   | none=>simp [upO,hq] at hg
   | some a =>
    simp only [upO,hq,Option.some.injEq] at hg
    subst hg
    exact⟨a,rfl,fun u hv=>hv.ups n⟩
theorem shift_ok {n:Nat} {w w':World} {m m':Mp} {Y K2:List ABlk} {H:Nat→ABlk} (hY:Y.length=n) (hS:St w m H) (hH:∀ r,r<n→H r=hp Y r) (hT:Tr w (m.dn n) w' m') (hS':St w' m' (hp K2)) (hnl:nlK K2) :
  Tr w m w' (m.ups n m')∧St w' (m.ups n m') (hp (Y++upsB n K2)):=by
 have hlo:∀ r,r<n→(m.ups n m').L r=m.L r∧(m.ups n m').ρ r=m.ρ r:=fun r hr=>by simp [Mp.ups,hr]
 have hhi:∀ r,¬ r<n→(m.ups n m').L r=m'.L (r - n)∧(m.ups n m').ρ r=m'.ρ (r - n):=fun r hr=>by simp [Mp.ups,hr]
 have hdn:∀ r,¬ r<n→(m.dn n).L (r - n)=m.L r∧(m.dn n).ρ (r - n)=m.ρ r:=fun r hr=>by
  have:r - n+n=r:=by omega
  simp only [Mp.dn,this];exact⟨trivial,trivial⟩
 have hTr:Tr w m w' (m.ups n m'):={
  os:=hT.os
  tape:=hT.tape
  output:=hT.output
  size:=hT.size
  out:=fun b hb hr=>hT.out b hb fun r hl=>hr (r+n) hl
  imm:=fun b hb=>hT.imm b hb
  same:=fun b hb=>hT.same b hb
  newI:=fun b hb=>by
   rcases hT.newI b hb with h|⟨r,h1,h2⟩|h
   ·exact .inl h
   ·exact .inr (.inl ⟨r+n,h1,h2⟩)
   ·exact .inr (.inr h)
  step:=fun r=>by
   by_cases hr:r<n
   ·rw [(hlo r hr).1,(hlo r hr).2];exact Inf.step_refl _ _ rfl
   ·rw [(hhi r hr).1,(hhi r hr).2]
    have:=hT.step (r - n)
    rw [(hdn r hr).1,(hdn r hr).2] at this
    exact this
  newρ:=fun r hl=>by
   by_cases hr:r<n
   ·rw [(hlo r hr).1] at hl;exact .inl ⟨hl,(hlo r hr).2⟩
   ·rw [(hhi r hr).1] at hl
    rw [(hhi r hr).2]
    rcases hT.newρ (r - n) hl with ⟨h1,h2⟩|h1
    ·rw [(hdn r hr).1] at h1
     rw [(hdn r hr).2] at h2
     exact .inl ⟨h1,h2⟩
    ·exact .inr h1 }
 have sep:∀ r1 r2,r1<n→(m.L r1).isLive→¬ r2<n→(m'.L (r2 - n)).isLive→m.ρ r1≠m'.ρ (r2 - n):=fun r1 r2 h1 hl1 h2 hl2 e=>by
  rcases hT.newρ (r2 - n) hl2 with ⟨h3,h4⟩|h3
  ·rw [(hdn r2 h2).1] at h3
   rw [(hdn r2 h2).2] at h4
   have:=hS.inj r1 r2 hl1 h3 (e.trans h4)
   omega
  ·have:=hS.lt r1 hl1;omega
 refine⟨hTr,fun r1 r2 h1 h2 e=>?_,fun r h1 hI=>?_,fun r h1=>?_,hS'.Ilt,hS'.gl,fun r=>?_⟩
 ·by_cases hr1:r1<n<;>by_cases hr2:r2<n
  ·rw [(hlo r1 hr1).1] at h1;rw [(hlo r2 hr2).1] at h2
   rw [(hlo r1 hr1).2,(hlo r2 hr2).2] at e
   exact hS.inj r1 r2 h1 h2 e
  ·rw [(hlo r1 hr1).1] at h1;rw [(hhi r2 hr2).1] at h2
   rw [(hlo r1 hr1).2,(hhi r2 hr2).2] at e
   exact absurd e (sep r1 r2 hr1 h1 hr2 h2)
  ·rw [(hhi r1 hr1).1] at h1;rw [(hlo r2 hr2).1] at h2
   rw [(hhi r1 hr1).2,(hlo r2 hr2).2] at e
   exact absurd e.symm (sep r2 r1 hr2 h2 hr1 h1)
  ·rw [(hhi r1 hr1).1] at h1;rw [(hhi r2 hr2).1] at h2
   rw [(hhi r1 hr1).2,(hhi r2 hr2).2] at e
   have:=hS'.inj _ _ h1 h2 e
   omega
 ·by_cases hr:r<n
  ·rw [(hlo r hr).1] at h1
   rw [(hlo r hr).2] at hI
   rcases hT.newI _ hI with h|⟨r0,h2,h3⟩|h
   ·exact hS.notI r h1 h
   ·have:=hS.inj (r0+n) r h2 h1 h3;omega
   ·have:=hS.lt r h1;omega
  ·rw [(hhi r hr).1] at h1
   rw [(hhi r hr).2] at hI
   exact hS'.notI _ h1 hI
 ·by_cases hr:r<n
  ·rw [(hlo r hr).1] at h1
   rw [(hlo r hr).2]
   exact Nat.lt_of_lt_of_le (hS.lt r h1) hT.size
  ·rw [(hhi r hr).1] at h1
   rw [(hhi r hr).2]
   exact hS'.lt _ h1
 ·rw [hp_append,hY]
  by_cases hr:r<n
  ·rw [if_pos hr,(hlo r hr).1,(hlo r hr).2]
   have hb:=hS.blk r
   rw [hH r hr] at hb
   by_cases hl:(m.L r).isLive
   ·refine hb.mono (hT.out _ (hS.lt r hl) fun r0 h0 e=>?_) (fun _ _ hv=>hv.mono hTr)
    have:=hS.inj (r0+n) r h0 hl e
    omega
   ·exact hb.nolive hl
  ·rw [if_neg hr,(hhi r hr).1,(hhi r hr).2,hp_ups]
   exact (hS'.blk (r - n)).ups n (hnl.hp _)
theorem St.dn {w:World} {m:Mp} {Y K1:List ABlk} {n:Nat} (hY:Y.length=n) (hnl:nlK K1) (hS:St w m (hp (Y++K1))):St w (m.dn n) (hp (dnsB n K1)):=by
 refine⟨fun r1 r2 h1 h2 e=>by have:=hS.inj (r1+n) (r2+n) h1 h2 e;omega,fun r h1=>hS.notI (r+n) h1,fun r h1=>hS.lt (r+n) h1,hS.Ilt,hS.gl,fun r=>?_⟩
 rw [hp_dns]
 have hb:=hS.blk (r+n)
 rw [hp_append,hY,if_neg (by omega),show r+n - n=r by omega] at hb
 exact hb.dn n (hnl.hp _)
theorem ACalls.shift {n:Nat} {f:FuncId} {args:List AV} {Y K1:List ABlk} {k:AO→List ABlk→Prop} (hY:Y.length=n) (hnl:nlK K1)
  (h:ACalls P f (AV.dns n args) (dnsB n K1) (fun ao K2=>nlK K2∧k (ao.up n) (Y++upsB n K2))):ACalls P f args (Y++K1) k:=by
 refine⟨h.1,fun w m Args hS hV=>?_⟩
 have hV':VL w (m.dn n) (AV.dns n args) Args:=⟨by rw [AV.dns_len];exact hV.1,fun j hj hj'=>by rw [AV.dns_get];exact (hV.2 j _ hj').dn n⟩
 have hH:∀ r,r<n→hp (Y++K1) r=hp Y r:=fun r hr=>by rw [hp_append,hY,if_pos hr]
 refine (h.2 w (m.dn n) Args (hS.dn hY hnl) hV').mono fun e w' he=>?_
 cases e with
 | returned u =>
  obtain⟨m',a,K2,h1,h2,h3,h4,h5⟩:=he
  obtain⟨k1,k2⟩:=shift_ok hY hS hH h1 h2 h4
  exact⟨_,_,_,k1,k2,h3.ups n,h5⟩
 | panicked ch =>
  obtain⟨m',a,u,K2,h0,h1,h2,h3,h4,h5⟩:=he
  obtain⟨k1,k2⟩:=shift_ok hY hS hH h1 h2 h4
  exact⟨_,_,u,_,h0,k1,k2,h3.ups n,h5⟩
 | outgrown=>exact he.elim
theorem ACalls.nilPre {f:FuncId} {args:List AV} {K K':List ABlk} {k:AO→List ABlk→Prop} (ty sz:Nat) (g:Nat→List AV) (hK:nswK K.length K K')
  (h:ACalls P f args (K'++[.arr ty sz 0 0 g]) k):ACalls P f args K k :=
 h.pre fun w m Args hS hV=>by
  obtain⟨m',h1,h2,_⟩:=nil_core ty sz g hS hK
  exact⟨m',h1,h2,hV.1,fun j hj hj'=>(hV.2 j hj hj').mono h1⟩
def fsw (r sz n:Nat) (g:Nat→List PV) (a b:AV):Prop:=a.le b∨(a=.slr r 0 0 n∧b=.p (.sl sz n g))
def fswL (r sz n:Nat) (g:Nat→List PV):List AV→List AV→Prop
 | [],[]=>True
 | a::l,b::l'=>fsw r sz n g a b∧fswL r sz n g l l'
 | _,_=>False
def fswB (r sz n:Nat) (g:Nat→List PV) (b b':ABlk):Prop:=b.le b'∨∃ ty cs cs',b=.box ty cs∧b'=.box ty cs'∧fswL r sz n g cs cs'
def fswK (r sz n:Nat) (g:Nat→List PV):List ABlk→List ABlk→Prop
 | [],[]=>True
 | a::l,b::l'=>fswB r sz n g a b∧fswK r sz n g l l'
 | _,_=>False
theorem fswL.get {r sz n:Nat} {g:Nat→List PV} {l l':List AV} (h:fswL r sz n g l l'):l.length=l'.length∧∀ j (hj:j<l.length) (hj':j<l'.length),fsw r sz n g l[j] l'[j]:=by
 induction l generalizing l' with
 | nil=>cases l' with
  | nil=>exact⟨rfl,fun j hj=>by simp at hj⟩
  | cons b l'=>exact h.elim
 | cons a l ih=>cases l' with
  | nil=>exact h.elim
  | cons b l' =>
   obtain⟨h1,h2⟩:=ih h.2
   refine⟨by simp [h1],fun j hj hj'=>?_⟩
   cases j with
   | zero=>exact h.1
   | succ j=>exact h2 j (by simpa using hj) (by simpa using hj')
theorem fswK.hp {r sz n:Nat} {g:Nat→List PV} {K K':List ABlk} (h:fswK r sz n g K K') (j:Nat):fswB r sz n g (hp K j) (hp K' j):=by
 induction K generalizing K' j with
 | nil=>cases K' with
  | nil=>exact .inl (ABlk.le_refl _)
  | cons b l'=>exact h.elim
 | cons a l ih=>cases K' with
  | nil=>exact h.elim
  | cons b l' =>
   cases j with
   | zero=>exact h.1
   | succ j=>exact ih h.2 j
theorem fz_core {w:World} {m:Mp} {K K':List ABlk} {r ty sz n:Nat} {f:Nat→List AV} {g:Nat→List PV} (hS:St w m (hp K)) (hr:nth K r=some (.arr ty sz 0 n f)) (hg:∀ i,i<n→f i=pvs (g i))
  (hK:fswK r sz n g (setN K r .dead) K'):∃ m',Tr w m w m'∧St w m' (hp K')∧∀ a a' u,fsw r sz n g a a'→V w m a u→V w m' a' u:=by
 obtain⟨m',hT,hS',hV⟩:=freeze_sl hS hr g hg
 have hv:∀ a a' u,fsw r sz n g a a'→V w m a u→V w m' a' u:=fun a a' u h hu=>by
  rcases h with h|⟨rfl,rfl⟩
  ·exact h _ _ _ (hu.mono hT)
  ·exact hV u hu
 refine⟨m',hT,⟨hS'.inj,hS'.notI,hS'.lt,hS'.Ilt,hS'.gl,fun j=>?_⟩,hv⟩
 have hb:=hS'.blk j
 rcases hK.hp j with h|⟨ty,cs,cs',h1,h2,h3⟩
 ·exact h _ _ _ _ hb
 ·rw [h1] at hb
  rw [h2]
  have hup:hp (setN K r .dead) j=upd (hp K) r .dead j:=by rw [upd_setN _ (nth_lt hr)]
  have hj:hp K j=.box ty cs:=by
   rw [h1] at hup
   simp only [upd] at hup
   split at hup
   ·cases hup
   ·exact hup.symm
  have hb0:=hS.blk j
  rw [hj] at hb0
  obtain⟨hl0,c0,e1,e2,e3⟩:=hb0
  obtain⟨hl,c,d1,d2,d3⟩:=hb
  have hρ:m'.ρ j=m.ρ j:=by
   have hs:=hT.step j
   rw [hl0,hl] at hs
   simp only [Inf.step] at hs
   rcases hs with hs|⟨_,he⟩|⟨v',n',sz',cap',hs,hlt⟩
   ·cases hs
   ·exact he
   ·simp only [Inf.live.injEq] at hs;omega
  obtain⟨k1,k2⟩:=h3.get
  refine⟨by rw [← k1];exact hl,c0,by rw [hρ];exact e1,by rw [e2,k1],fun i hi=>?_⟩
  obtain⟨u,hu,hvu⟩:=e3 i (by omega)
  exact⟨u,hu,hv _ _ _ (k2 i (by omega) hi) hvu⟩
theorem Wk1.fz {N:Nat} {K K':List ABlk} {r ty sz n:Nat} {f:Nat→List AV} {a a':AV} (g:Nat→List PV) (hr:nth K r=some (.arr ty sz 0 n f)) (hg:∀ i,i<n→f i=pvs (g i))
  (hK:fswK r sz n g (setN K r .dead) K') (ha:a.le a'):Wk1 N a K a' K':=fun w m u we me hT _ hS hV=>by
 obtain⟨m',h1,h2,h3⟩:=fz_core hS hr hg hK
 exact⟨m',hT.trans h1,h2,h3 _ _ _ (.inl ha) hV⟩
theorem ACalls.fact {f:FuncId} {args:List AV} {K:List ABlk} {k:AO→List ABlk→Prop} {c:Prop} (hent:Ent P f) (hf:∀ w m Args,St w m (hp K)→VL w m args Args→c) (h:c→ACalls P f args K k):ACalls P f args K k :=
 ⟨hent,fun w m Args hS hV=>(h (hf w m Args hS hV)).2 w m Args hS hV⟩
theorem VP.len {w:World} {I:Nat→Prop} {sz n:Nat} {f:Nat→List PV} {u:Value} (h:VP w I (.sl sz n f) u):n≤9223372036854775807:=by
 cases h with
 | sl0=>omega
 | sl _ _ _ b o c uu hI hcap hc hv=>have:=hcap.2;simp only [maxLen] at this;omega
theorem VP.get {w:World} {I:Nat→Prop} {sz n:Nat} {f:Nat→List PV} {u:Value} (h:VP w I (.sl sz n f) u) {i j:Nat} (hi:i<n) (hj:j<(f i).length):∃ u,VP w I (f i)[j] u:=by
 cases h with
 | sl0=>omega
 | sl _ _ _ b o c uu hI hcap hc hv=>exact⟨_,hv i hi j hj⟩
end
end Go.AE
