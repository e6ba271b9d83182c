/-
  DERIVED: THE SHELF's CONTRACTS AT THIS DUMP, IN PLAIN WORDS (tools/lay-plain.mjs out of 'TryzShelf.lean', which tools/lay-shelf.mjs wrote): THE SAME DECLARATIONS UNDER THE SAME NAMES: 'import', 'namespace', 'open', 'def', 'theorem' AND NOTHING ELSE: no command of the shelf's: FOR A HAND-IN. Each laying: the table of numbers ('.._ren') and one theorem, a field a fact of the dump's own or the kernel's comparison; each contract: ONE APPLICATION.
  Library functions as the layer AE meets them: by the shelf's contracts. No statement of the seat is proved here.
  Tokens, part 2: the contracts of the cutter's small functions. No statement of the seat is proved here.
  Parser, part 2: the parser's state as the layer AE sees it, and the contracts of its small functions (is, take, skip, want, ident, fail, put, types, rows). No statement of the seat is proved here.
  Tokens, part 3: the contract of the cutter. No statement of the seat is proved here.
  AE, part 11: a loop told by what it changes. Own metatheory over any program; no statement of the seat is proved here.
-/
import Derived.Shelf.Small.Strs
import Derived.Shelf.Strconv.Atoi
import Derived.Shelf.Strconv.Itoa0
import Derived.Shelf.Strconv.Itoa1
import Derived.Shelf.LaysM
import Derived.Shelf.Strconv.Itoa2
import Derived.Shelf.Strconv.Itoa3
import Derived.Shelf.Strconv.AtoiErrFast
import Derived.Shelf.Strconv.ParseIntEmpty
import Derived.Shelf.Strconv.AtoiFail
import Derived.Shelf.Strconv.Clone
import Derived.Shelf.Strconv.SyntaxError
import Derived.Shelf.LaysC
import Derived.Shelf.Strconv.ToError
import Derived.Shelf.Strconv.Lower
import Derived.Shelf.Strconv.ParseUint10
import Derived.Shelf.Strconv.ParseUint10Empty
import Derived.Shelf.Strconv.ParseUint10Any
import Derived.Shelf.Strconv.ParseInt10
import Derived.Shelf.Strconv.AtoiLong
import Derived.Shelf.Strconv.AtoiInnerAll
import Derived.Shelf.Strconv.RangeError
import Derived.Shelf.Strconv.ToErrorRange
import Derived.Shelf.Strconv.AtoiAll
import Derived.Shelf.Strings.Search1
import Derived.Shelf.Strings.Search2
import Derived.Shelf.Strings.Search3
import Derived.Shelf.Strings.Shaped
import Derived.Test.YtkomdppjelnpdaaGreatDoorProg
import Derived.Test.YtkomdppjelnpdaaGreatDoorChecked
import Derived.Test.YtkomdppjelnpdaaGreatDoorPk1
import Derived.Test.YtkomdppjelnpdaaGreatDoorPk2
import Derived.Test.YtkomdppjelnpdaaGreatDoorPk3
namespace Go.Proofs
open Go.Shelf
def Tryz.lays137_ren : Go.Shelf.Ren := ⟨fun | 137 => 72 | 217 => 111 | 266 => 156 | n => n, fun | 9 => 9 | 5 => 5 | 3 => 3 | n => n, fun | n => n⟩
theorem Tryz.lays137 : Go.Proofs.Lays.n137 Tryz.prog Tryz.lays137_ren := {
  mixed := by kernel_rfl
  f137 := Tryz.func72.trans (congrArg some (by kernel_rfl))
  f217 := Tryz.func111.trans (congrArg some (by kernel_rfl))
  f266 := Tryz.func156.trans (congrArg some (by kernel_rfl))
  t3 := Tryz.underlying3
  a3 := Tryz.isAgg3
  z3 := Tryz.sizeOf3
  v3 := Tryz.zeroValue3
  t5 := Tryz.underlying5
  a5 := Tryz.isAgg5
  z5 := Tryz.sizeOf5
  v5 := Tryz.zeroValue5
  t9 := Tryz.underlying9
  a9 := Tryz.isAgg9
  z9 := Tryz.sizeOf9
  v9 := Tryz.zeroValue9 }
open Go.RowKit in
theorem Tryz.strings_IndexByte (s : ByteArray) (c : Int) (w : World) :
    Calls Tryz.prog 72 #[.string s, .int .u8 c] w fun e w' => e = .returned (.int .i64 (Lib.indexByte s.data.toList c.toNat.toUInt8)) ∧ w' = w := Any.strings_IndexByte Tryz.lays137 s c w
def Tryz.lays244_ren : Go.Shelf.Ren := ⟨fun | 244 => 180 | 247 => 187 | 287 => 199 | 321 => 211 | 322 => 212 | n => n, fun | 9 => 9 | 3 => 3 | 75 => 171 | 4 => 4 | 5 => 5 | 167 => 184 | 37 => 160 | 0 => 0 | 85 => 185 | 2 => 2 | 53 => 142 | 175 => 193 | 46 => 110 | 21 => 21 | 80 => 213 | n => n, fun | n => n⟩
theorem Tryz.lays244 : Go.Proofs.Lays.n244 Tryz.prog Tryz.lays244_ren := {
  mixed := by kernel_rfl
  f244 := Tryz.func180.trans (congrArg some (by kernel_rfl))
  f247 := Tryz.func187.trans (congrArg some (by kernel_rfl))
  f287 := Tryz.func199.trans (congrArg some (by kernel_rfl))
  f321 := Tryz.func211.trans (congrArg some (by kernel_rfl))
  f322 := Tryz.func212.trans (congrArg some (by kernel_rfl))
  t0 := Tryz.underlying0
  a0 := Tryz.isAgg0
  z0 := Tryz.sizeOf0
  v0 := Tryz.zeroValue0
  t2 := Tryz.underlying2
  a2 := Tryz.isAgg2
  z2 := Tryz.sizeOf2
  v2 := Tryz.zeroValue2
  t3 := Tryz.underlying3
  a3 := Tryz.isAgg3
  z3 := Tryz.sizeOf3
  v3 := Tryz.zeroValue3
  t4 := Tryz.underlying4
  a4 := Tryz.isAgg4
  z4 := Tryz.sizeOf4
  v4 := Tryz.zeroValue4
  t5 := Tryz.underlying5
  a5 := Tryz.isAgg5
  z5 := Tryz.sizeOf5
  v5 := Tryz.zeroValue5
  t9 := Tryz.underlying9
  a9 := Tryz.isAgg9
  z9 := Tryz.sizeOf9
  v9 := Tryz.zeroValue9
  t21 := Tryz.underlying21
  a21 := Tryz.isAgg21
  z21 := Tryz.sizeOf21
  v21 := Tryz.zeroValue21
  t37 := Tryz.underlying160
  a37 := Tryz.isAgg160
  z37 := Tryz.sizeOf160
  v37 := Tryz.zeroValue160
  t46 := Tryz.underlying110
  a46 := Tryz.isAgg110
  z46 := Tryz.sizeOf110
  v46 := Tryz.zeroValue110
  t53 := Tryz.underlying142
  a53 := Tryz.isAgg142
  z53 := Tryz.sizeOf142
  v53 := Tryz.zeroValue142
  t75 := Tryz.underlying171
  a75 := Tryz.isAgg171
  z75 := Tryz.sizeOf171
  v75 := Tryz.zeroValue171
  t85 := Tryz.underlying185
  a85 := Tryz.isAgg185
  z85 := Tryz.sizeOf185
  v85 := Tryz.zeroValue185
  t167 := Tryz.underlying184
  a167 := Tryz.isAgg184
  z167 := Tryz.sizeOf184
  v167 := Tryz.zeroValue184
  t175 := Tryz.underlying193
  a175 := Tryz.isAgg193
  z175 := Tryz.sizeOf193
  v175 := Tryz.zeroValue193 }
open Go.RowKit in
theorem Tryz.internal_strconv_Atoi (s : ByteArray) (n : Int) (hl : s.size ≤ 18) (h : Lib.atoi s.data.toList = some n) (w : World) :
    Calls Tryz.prog 180 #[.string s] w fun e w' => e = .returned (.tuple #[.int .i64 n, .nilIface]) ∧ ∃ t, w' = Lib.bytesWorld w 5 t := Any.internal_strconv_Atoi Tryz.lays244 s n hl h w
def Tryz.lays172_ren : Go.Shelf.Ren := ⟨fun | 172 => 168 | 244 => 180 | 245 => 181 | 247 => 187 | 279 => 188 | 280 => 189 | 281 => 190 | 282 => 191 | 287 => 199 | 316 => 200 | 171 => 169 | 205 => 201 | 321 => 211 | 322 => 212 | 243 => 182 | 246 => 192 | 283 => 202 | 284 => 203 | 285 => 204 | 286 => 205 | 129 => 125 | 317 => 213 | 318 => 214 | 319 => 215 | 320 => 216 | 337 => 219 | 338 => 220 | n => n, fun | 9 => 9 | 3 => 3 | 75 => 171 | 76 => 172 | 4 => 4 | 5 => 5 | 167 => 184 | 37 => 160 | 0 => 0 | 85 => 185 | 2 => 2 | 168 => 187 | 53 => 142 | 175 => 193 | 46 => 110 | 210 => 197 | 127 => 204 | 145 => 207 | 143 => 205 | 21 => 21 | 171 => 199 | 173 => 201 | 212 => 209 | 51 => 140 | 20 => 20 | 213 => 210 | 232 => 211 | 233 => 212 | 80 => 213 | n => n, fun | 15 => 1 | 16 => 2 | 17 => 3 | 18 => 4 | 19 => 5 | n => n⟩
theorem Tryz.lays172 : Go.Proofs.Lays.n172 Tryz.prog Tryz.lays172_ren := {
  mixed := by kernel_rfl
  f129 := Tryz.func125.trans (congrArg some (by kernel_rfl))
  f171 := Tryz.func169.trans (congrArg some (by kernel_rfl))
  f172 := Tryz.func168.trans (congrArg some (by kernel_rfl))
  f205 := Tryz.func201.trans (congrArg some (by kernel_rfl))
  f243 := Tryz.func182.trans (congrArg some (by kernel_rfl))
  f244 := Tryz.func180.trans (congrArg some (by kernel_rfl))
  f245 := Tryz.func181.trans (congrArg some (by kernel_rfl))
  f246 := Tryz.func192.trans (congrArg some (by kernel_rfl))
  f247 := Tryz.func187.trans (congrArg some (by kernel_rfl))
  f279 := Tryz.func188.trans (congrArg some (by kernel_rfl))
  f280 := Tryz.func189.trans (congrArg some (by kernel_rfl))
  f281 := Tryz.func190.trans (congrArg some (by kernel_rfl))
  f282 := Tryz.func191.trans (congrArg some (by kernel_rfl))
  f283 := Tryz.func202.trans (congrArg some (by kernel_rfl))
  f284 := Tryz.func203.trans (congrArg some (by kernel_rfl))
  f285 := Tryz.func204.trans (congrArg some (by kernel_rfl))
  f286 := Tryz.func205.trans (congrArg some (by kernel_rfl))
  f287 := Tryz.func199.trans (congrArg some (by kernel_rfl))
  f316 := Tryz.func200.trans (congrArg some (by kernel_rfl))
  f317 := Tryz.func213.trans (congrArg some (by kernel_rfl))
  f318 := Tryz.func214.trans (congrArg some (by kernel_rfl))
  f319 := Tryz.func215.trans (congrArg some (by kernel_rfl))
  f320 := Tryz.func216.trans (congrArg some (by kernel_rfl))
  f321 := Tryz.func211.trans (congrArg some (by kernel_rfl))
  f322 := Tryz.func212.trans (congrArg some (by kernel_rfl))
  f337 := Tryz.func219.trans (congrArg some (by kernel_rfl))
  f338 := Tryz.func220.trans (congrArg some (by kernel_rfl))
  t0 := Tryz.underlying0
  a0 := Tryz.isAgg0
  z0 := Tryz.sizeOf0
  v0 := Tryz.zeroValue0
  t2 := Tryz.underlying2
  a2 := Tryz.isAgg2
  z2 := Tryz.sizeOf2
  v2 := Tryz.zeroValue2
  t3 := Tryz.underlying3
  a3 := Tryz.isAgg3
  z3 := Tryz.sizeOf3
  v3 := Tryz.zeroValue3
  t4 := Tryz.underlying4
  a4 := Tryz.isAgg4
  z4 := Tryz.sizeOf4
  v4 := Tryz.zeroValue4
  t5 := Tryz.underlying5
  a5 := Tryz.isAgg5
  z5 := Tryz.sizeOf5
  v5 := Tryz.zeroValue5
  t9 := Tryz.underlying9
  a9 := Tryz.isAgg9
  z9 := Tryz.sizeOf9
  v9 := Tryz.zeroValue9
  t20 := Tryz.underlying20
  a20 := Tryz.isAgg20
  z20 := Tryz.sizeOf20
  v20 := Tryz.zeroValue20
  t21 := Tryz.underlying21
  a21 := Tryz.isAgg21
  z21 := Tryz.sizeOf21
  v21 := Tryz.zeroValue21
  t37 := Tryz.underlying160
  a37 := Tryz.isAgg160
  z37 := Tryz.sizeOf160
  v37 := Tryz.zeroValue160
  t46 := Tryz.underlying110
  a46 := Tryz.isAgg110
  z46 := Tryz.sizeOf110
  v46 := Tryz.zeroValue110
  t51 := Tryz.underlying140
  a51 := Tryz.isAgg140
  z51 := Tryz.sizeOf140
  v51 := Tryz.zeroValue140
  t53 := Tryz.underlying142
  a53 := Tryz.isAgg142
  z53 := Tryz.sizeOf142
  v53 := Tryz.zeroValue142
  t75 := Tryz.underlying171
  a75 := Tryz.isAgg171
  z75 := Tryz.sizeOf171
  v75 := Tryz.zeroValue171
  t76 := Tryz.underlying172
  a76 := Tryz.isAgg172
  z76 := Tryz.sizeOf172
  v76 := Tryz.zeroValue172
  t85 := Tryz.underlying185
  a85 := Tryz.isAgg185
  z85 := Tryz.sizeOf185
  v85 := Tryz.zeroValue185
  t127 := Tryz.underlying204
  a127 := Tryz.isAgg204
  z127 := Tryz.sizeOf204
  v127 := Tryz.zeroValue204
  t143 := Tryz.underlying205
  a143 := Tryz.isAgg205
  z143 := Tryz.sizeOf205
  v143 := Tryz.zeroValue205
  t145 := Tryz.underlying207
  a145 := Tryz.isAgg207
  z145 := Tryz.sizeOf207
  v145 := Tryz.zeroValue207
  t167 := Tryz.underlying184
  a167 := Tryz.isAgg184
  z167 := Tryz.sizeOf184
  v167 := Tryz.zeroValue184
  t168 := Tryz.underlying187
  a168 := Tryz.isAgg187
  z168 := Tryz.sizeOf187
  v168 := Tryz.zeroValue187
  t171 := Tryz.underlying199
  a171 := Tryz.isAgg199
  z171 := Tryz.sizeOf199
  v171 := Tryz.zeroValue199
  t173 := Tryz.underlying201
  a173 := Tryz.isAgg201
  z173 := Tryz.sizeOf201
  v173 := Tryz.zeroValue201
  t175 := Tryz.underlying193
  a175 := Tryz.isAgg193
  z175 := Tryz.sizeOf193
  v175 := Tryz.zeroValue193
  t210 := Tryz.underlying197
  a210 := Tryz.isAgg197
  z210 := Tryz.sizeOf197
  v210 := Tryz.zeroValue197
  t212 := Tryz.underlying209
  a212 := Tryz.isAgg209
  z212 := Tryz.sizeOf209
  v212 := Tryz.zeroValue209
  t213 := Tryz.underlying210
  a213 := Tryz.isAgg210
  z213 := Tryz.sizeOf210
  t232 := Tryz.underlying211
  a232 := Tryz.isAgg211
  z232 := Tryz.sizeOf211
  v232 := Tryz.zeroValue211
  t233 := Tryz.underlying212
  a233 := Tryz.isAgg212
  z233 := Tryz.sizeOf212
  v233 := Tryz.zeroValue212
  g15 := by kernel_rfl
  g16 := by kernel_rfl
  g17 := by kernel_rfl
  g18 := by kernel_rfl
  g19 := by kernel_rfl }
open Go.RowKit in
theorem Tryz.strconv_Atoi (s : ByteArray) (n : Int) (hl : s.size ≤ 18) (h : Lib.atoi s.data.toList = some n) (w : World) :
    Calls Tryz.prog 168 #[.string s] w fun e w' => e = .returned (.tuple #[.int .i64 n, .nilIface]) ∧ ∃ t, w' = Lib.bytesWorld w 5 t := Any.strconv_Atoi Tryz.lays172 s n hl h w
def Tryz.lays129_ren : Go.Shelf.Ren := ⟨fun | 129 => 125 | n => n, fun | 53 => 142 | 3 => 3 | 4 => 4 | 46 => 110 | 5 => 5 | 9 => 9 | n => n, fun | n => n⟩
theorem Tryz.lays129 : Go.Proofs.Lays.n129 Tryz.prog Tryz.lays129_ren := {
  mixed := by kernel_rfl
  f129 := Tryz.func125.trans (congrArg some (by kernel_rfl))
  t3 := Tryz.underlying3
  a3 := Tryz.isAgg3
  z3 := Tryz.sizeOf3
  v3 := Tryz.zeroValue3
  t4 := Tryz.underlying4
  a4 := Tryz.isAgg4
  z4 := Tryz.sizeOf4
  v4 := Tryz.zeroValue4
  t5 := Tryz.underlying5
  a5 := Tryz.isAgg5
  z5 := Tryz.sizeOf5
  v5 := Tryz.zeroValue5
  t9 := Tryz.underlying9
  a9 := Tryz.isAgg9
  z9 := Tryz.sizeOf9
  v9 := Tryz.zeroValue9
  t46 := Tryz.underlying110
  a46 := Tryz.isAgg110
  z46 := Tryz.sizeOf110
  v46 := Tryz.zeroValue110
  t53 := Tryz.underlying142
  a53 := Tryz.isAgg142
  z53 := Tryz.sizeOf142
  v53 := Tryz.zeroValue142 }
theorem Tryz.bits_Len64 (x : Int) (w : World) (h0 : 0 ≤ x) (h1 : x ≤ 18446744073709551615) :
    Calls Tryz.prog 125 #[.int .u64 x] w fun e w' => e = .returned (.int .i64 (Lib.bitLen x.toNat)) ∧ w' = w := Any.bits_Len64 Tryz.lays129 x w h0 h1
def Tryz.lays317_ren : Go.Shelf.Ren := ⟨fun | 317 => 213 | n => n, fun | 3 => 3 | 46 => 110 | n => n, fun | n => n⟩
theorem Tryz.lays317 : Go.Proofs.Lays.n317 Tryz.prog Tryz.lays317_ren := {
  mixed := by kernel_rfl
  f317 := Tryz.func213.trans (congrArg some (by kernel_rfl))
  t3 := Tryz.underlying3
  a3 := Tryz.isAgg3
  z3 := Tryz.sizeOf3
  v3 := Tryz.zeroValue3
  t46 := Tryz.underlying110
  a46 := Tryz.isAgg110
  z46 := Tryz.sizeOf110
  v46 := Tryz.zeroValue110 }
open Go.Lib in
theorem Tryz.internal_strconv_log10Pow2 (x : Nat) (h : x ≤ 64) (w : World) :
    Calls Tryz.prog 213 #[.int .i64 x] w fun e w' => e = .returned (.int .i64 (Lib.l10 x)) ∧ w' = w := Any.internal_strconv_log10Pow2 Tryz.lays317 x h w
def Tryz.lays318_ren : Go.Shelf.Ren := ⟨fun | 318 => 214 | n => n, fun | 3 => 3 | 4 => 4 | n => n, fun | n => n⟩
theorem Tryz.lays318 : Go.Proofs.Lays.n318 Tryz.prog Tryz.lays318_ren := {
  mixed := by kernel_rfl
  f318 := Tryz.func214.trans (congrArg some (by kernel_rfl))
  t3 := Tryz.underlying3
  a3 := Tryz.isAgg3
  z3 := Tryz.sizeOf3
  v3 := Tryz.zeroValue3
  t4 := Tryz.underlying4
  a4 := Tryz.isAgg4
  z4 := Tryz.sizeOf4
  v4 := Tryz.zeroValue4 }
open Go.Lib in
theorem Tryz.internal_strconv_bool2_int (b : Bool) (w : World) :
    Calls Tryz.prog 214 #[.bool b] w fun e w' => e = .returned (.int .i64 (if b then 1 else 0)) ∧ w' = w := Any.internal_strconv_bool2_int Tryz.lays318 b w
def Tryz.lays283_ren : Go.Shelf.Ren := ⟨fun | 283 => 202 | n => n, fun | 3 => 3 | 9 => 9 | 4 => 4 | n => n, fun | n => n⟩
theorem Tryz.lays283 : Go.Proofs.Lays.n283 Tryz.prog Tryz.lays283_ren := {
  mixed := by kernel_rfl
  f283 := Tryz.func202.trans (congrArg some (by kernel_rfl))
  t3 := Tryz.underlying3
  a3 := Tryz.isAgg3
  z3 := Tryz.sizeOf3
  v3 := Tryz.zeroValue3
  t4 := Tryz.underlying4
  a4 := Tryz.isAgg4
  z4 := Tryz.sizeOf4
  v4 := Tryz.zeroValue4
  t9 := Tryz.underlying9
  a9 := Tryz.isAgg9
  z9 := Tryz.sizeOf9
  v9 := Tryz.zeroValue9 }
open Go.Lib in
theorem Tryz.internal_strconv_small (i : Nat) (h : i < 100) (w : World) :
    Calls Tryz.prog 202 #[.int .i64 i] w fun e w' => e = .returned (.string ⟨(Lib.decDigits i).toArray⟩) ∧ w' = w := Any.internal_strconv_small Tryz.lays283 i h w
def Tryz.laysM284_ren : Go.Shelf.Ren := ⟨fun | 284 => 203 | 129 => 125 | 317 => 213 | 318 => 214 | n => n, fun | 53 => 142 | 3 => 3 | 212 => 209 | 0 => 0 | 4 => 4 | 46 => 110 | 5 => 5 | 9 => 9 | n => n, fun | 17 => 3 | n => n⟩
theorem Tryz.laysM284 : Go.Proofs.LaysM.n284 Tryz.prog Tryz.laysM284_ren := {
  mixed := by kernel_rfl
  f129 := Tryz.func125.trans (congrArg some (by kernel_rfl))
  f284 := Tryz.func203.trans (congrArg some (by kernel_rfl))
  f317 := Tryz.func213.trans (congrArg some (by kernel_rfl))
  f318 := Tryz.func214.trans (congrArg some (by kernel_rfl))
  t0 := Tryz.underlying0
  a0 := Tryz.isAgg0
  z0 := Tryz.sizeOf0
  v0 := Tryz.zeroValue0
  t3 := Tryz.underlying3
  a3 := Tryz.isAgg3
  z3 := Tryz.sizeOf3
  v3 := Tryz.zeroValue3
  t4 := Tryz.underlying4
  a4 := Tryz.isAgg4
  z4 := Tryz.sizeOf4
  v4 := Tryz.zeroValue4
  t5 := Tryz.underlying5
  a5 := Tryz.isAgg5
  z5 := Tryz.sizeOf5
  v5 := Tryz.zeroValue5
  t9 := Tryz.underlying9
  a9 := Tryz.isAgg9
  z9 := Tryz.sizeOf9
  v9 := Tryz.zeroValue9
  t46 := Tryz.underlying110
  a46 := Tryz.isAgg110
  z46 := Tryz.sizeOf110
  v46 := Tryz.zeroValue110
  t53 := Tryz.underlying142
  a53 := Tryz.isAgg142
  z53 := Tryz.sizeOf142
  v53 := Tryz.zeroValue142
  t212 := Tryz.underlying209
  a212 := Tryz.isAgg209
  z212 := Tryz.sizeOf209
  v212 := Tryz.zeroValue209
  g17 := by kernel_rfl
  i0 := by kernel_rfl
  i3 := by kernel_rfl
  i4 := by kernel_rfl
  i5 := by kernel_rfl
  i9 := by kernel_rfl
  i46 := by kernel_rfl
  i53 := by kernel_rfl
  i212 := by kernel_rfl
  m17 := by kernel_rfl }
open Go.Lib in
theorem Tryz.internal_strconv_numDigits (u : Nat) (h1 : 1 ≤ u) (h2 : u < 18446744073709551616) (w : World) (htab : Lib.TabIs Tryz.prog w "internal/strconv.uint64pow10" .u64 Lib.pow10Tab) :
    Calls Tryz.prog 203 #[.int .u64 u] w fun e w' => e = .returned (.int .i64 (Lib.nDigits u)) ∧ w' = w := Any.internal_strconv_numDigits Tryz.laysM284 u h1 h2 w htab
def Tryz.lays285_ren : Go.Shelf.Ren := ⟨fun | 285 => 204 | n => n, fun | 37 => 160 | 53 => 142 | 3 => 3 | 4 => 4 | 51 => 140 | 9 => 9 | 5 => 5 | 0 => 0 | n => n, fun | n => n⟩
theorem Tryz.lays285 : Go.Proofs.Lays.n285 Tryz.prog Tryz.lays285_ren := {
  mixed := by kernel_rfl
  f285 := Tryz.func204.trans (congrArg some (by kernel_rfl))
  t0 := Tryz.underlying0
  a0 := Tryz.isAgg0
  z0 := Tryz.sizeOf0
  v0 := Tryz.zeroValue0
  t3 := Tryz.underlying3
  a3 := Tryz.isAgg3
  z3 := Tryz.sizeOf3
  v3 := Tryz.zeroValue3
  t4 := Tryz.underlying4
  a4 := Tryz.isAgg4
  z4 := Tryz.sizeOf4
  v4 := Tryz.zeroValue4
  t5 := Tryz.underlying5
  a5 := Tryz.isAgg5
  z5 := Tryz.sizeOf5
  v5 := Tryz.zeroValue5
  t9 := Tryz.underlying9
  a9 := Tryz.isAgg9
  z9 := Tryz.sizeOf9
  v9 := Tryz.zeroValue9
  t37 := Tryz.underlying160
  a37 := Tryz.isAgg160
  z37 := Tryz.sizeOf160
  v37 := Tryz.zeroValue160
  t51 := Tryz.underlying140
  a51 := Tryz.isAgg140
  z51 := Tryz.sizeOf140
  v51 := Tryz.zeroValue140
  t53 := Tryz.underlying142
  a53 := Tryz.isAgg142
  z53 := Tryz.sizeOf142
  v53 := Tryz.zeroValue142 }
open Go.RowKit Go.Sort Go.Lib in
theorem Tryz.internal_strconv_formatBase10 (blk off cap : Nat) (u : Nat) (d : Array UInt8) (w : World) (hH : Holds (fun (b : UInt8) => Value.int .u8 (b.toNat : Int)) w blk off d) (hu : u < 10 ^ d.size) (hu64 : u < 18446744073709551616) (hsz : d.size < 4611686018427387904) :
    Calls Tryz.prog 204 #[.slice (some ⟨blk, off, none⟩) d.size cap, .int .u64 u] w fun e w' =>
      e = .returned (.tuple #[]) ∧ ∃ (n v' : Nat) (dk : Array UInt8), w' = (putRow (fun (b : UInt8) => Value.int .u8 (b.toNat : Int)) w blk off dk).drewN n ∧ FmtInv d.size u 0 v' dk := Any.internal_strconv_formatBase10 Tryz.lays285 blk off cap u d w hH hu hu64 hsz
def Tryz.laysM246_ren : Go.Shelf.Ren := ⟨fun | 246 => 192 | 283 => 202 | 284 => 203 | 285 => 204 | 286 => 205 | 129 => 125 | 317 => 213 | 318 => 214 | 319 => 215 | 320 => 216 | 337 => 219 | 338 => 220 | n => n, fun | 2 => 2 | 3 => 3 | 9 => 9 | 4 => 4 | 171 => 199 | 0 => 0 | 53 => 142 | 37 => 160 | 5 => 5 | 173 => 201 | 212 => 209 | 51 => 140 | 20 => 20 | 213 => 210 | 46 => 110 | 232 => 211 | 233 => 212 | n => n, fun | 17 => 3 | 18 => 4 | 19 => 5 | n => n⟩
theorem Tryz.laysM246 : Go.Proofs.LaysM.n246 Tryz.prog Tryz.laysM246_ren := {
  mixed := by kernel_rfl
  f129 := Tryz.func125.trans (congrArg some (by kernel_rfl))
  f246 := Tryz.func192.trans (congrArg some (by kernel_rfl))
  f283 := Tryz.func202.trans (congrArg some (by kernel_rfl))
  f284 := Tryz.func203.trans (congrArg some (by kernel_rfl))
  f285 := Tryz.func204.trans (congrArg some (by kernel_rfl))
  f286 := Tryz.func205.trans (congrArg some (by kernel_rfl))
  f317 := Tryz.func213.trans (congrArg some (by kernel_rfl))
  f318 := Tryz.func214.trans (congrArg some (by kernel_rfl))
  f319 := Tryz.func215.trans (congrArg some (by kernel_rfl))
  f320 := Tryz.func216.trans (congrArg some (by kernel_rfl))
  f337 := Tryz.func219.trans (congrArg some (by kernel_rfl))
  f338 := Tryz.func220.trans (congrArg some (by kernel_rfl))
  t0 := Tryz.underlying0
  a0 := Tryz.isAgg0
  z0 := Tryz.sizeOf0
  v0 := Tryz.zeroValue0
  t2 := Tryz.underlying2
  a2 := Tryz.isAgg2
  z2 := Tryz.sizeOf2
  v2 := Tryz.zeroValue2
  t3 := Tryz.underlying3
  a3 := Tryz.isAgg3
  z3 := Tryz.sizeOf3
  v3 := Tryz.zeroValue3
  t4 := Tryz.underlying4
  a4 := Tryz.isAgg4
  z4 := Tryz.sizeOf4
  v4 := Tryz.zeroValue4
  t5 := Tryz.underlying5
  a5 := Tryz.isAgg5
  z5 := Tryz.sizeOf5
  v5 := Tryz.zeroValue5
  t9 := Tryz.underlying9
  a9 := Tryz.isAgg9
  z9 := Tryz.sizeOf9
  v9 := Tryz.zeroValue9
  t20 := Tryz.underlying20
  a20 := Tryz.isAgg20
  z20 := Tryz.sizeOf20
  v20 := Tryz.zeroValue20
  t37 := Tryz.underlying160
  a37 := Tryz.isAgg160
  z37 := Tryz.sizeOf160
  v37 := Tryz.zeroValue160
  t46 := Tryz.underlying110
  a46 := Tryz.isAgg110
  z46 := Tryz.sizeOf110
  v46 := Tryz.zeroValue110
  t51 := Tryz.underlying140
  a51 := Tryz.isAgg140
  z51 := Tryz.sizeOf140
  v51 := Tryz.zeroValue140
  t53 := Tryz.underlying142
  a53 := Tryz.isAgg142
  z53 := Tryz.sizeOf142
  v53 := Tryz.zeroValue142
  t171 := Tryz.underlying199
  a171 := Tryz.isAgg199
  z171 := Tryz.sizeOf199
  v171 := Tryz.zeroValue199
  t173 := Tryz.underlying201
  a173 := Tryz.isAgg201
  z173 := Tryz.sizeOf201
  v173 := Tryz.zeroValue201
  t212 := Tryz.underlying209
  a212 := Tryz.isAgg209
  z212 := Tryz.sizeOf209
  v212 := Tryz.zeroValue209
  t213 := Tryz.underlying210
  a213 := Tryz.isAgg210
  z213 := Tryz.sizeOf210
  t232 := Tryz.underlying211
  a232 := Tryz.isAgg211
  z232 := Tryz.sizeOf211
  v232 := Tryz.zeroValue211
  t233 := Tryz.underlying212
  a233 := Tryz.isAgg212
  z233 := Tryz.sizeOf212
  v233 := Tryz.zeroValue212
  g17 := by kernel_rfl
  g18 := by kernel_rfl
  g19 := by kernel_rfl
  i0 := by kernel_rfl
  i2 := by kernel_rfl
  i3 := by kernel_rfl
  i4 := by kernel_rfl
  i5 := by kernel_rfl
  i9 := by kernel_rfl
  i20 := by kernel_rfl
  i37 := by kernel_rfl
  i46 := by kernel_rfl
  i51 := by kernel_rfl
  i53 := by kernel_rfl
  i171 := by kernel_rfl
  i173 := by kernel_rfl
  i212 := by kernel_rfl
  i232 := by kernel_rfl
  i233 := by kernel_rfl
  m17 := by kernel_rfl
  m18 := by kernel_rfl
  m19 := by kernel_rfl }
open Go.RowKit Go.Sort Go.Lib in
theorem Tryz.internal_strconv_FormatInt_10 (n : Int) (h0 : -9223372036854775808 ≤ n) (h1 : n ≤ 9223372036854775807) (w : World) (htab : Lib.TabIs Tryz.prog w "internal/strconv.uint64pow10" .u64 Lib.pow10Tab) :
    Calls Tryz.prog 192 #[.int .i64 n, .int .i64 10] w fun e w' => e = .returned (.string ⟨(Lib.itoa n).toArray⟩) ∧ ∃ k os, w' = grow (w.drewN k) os := Any.internal_strconv_FormatInt_10 Tryz.laysM246 n h0 h1 w htab
def Tryz.lays246_ren : Go.Shelf.Ren := ⟨fun | 246 => 192 | 283 => 202 | 284 => 203 | 285 => 204 | 286 => 205 | 129 => 125 | 317 => 213 | 318 => 214 | 319 => 215 | 320 => 216 | 337 => 219 | 338 => 220 | n => n, fun | 2 => 2 | 3 => 3 | 9 => 9 | 4 => 4 | 171 => 199 | 0 => 0 | 53 => 142 | 37 => 160 | 5 => 5 | 173 => 201 | 212 => 209 | 51 => 140 | 20 => 20 | 213 => 210 | 46 => 110 | 232 => 211 | 233 => 212 | n => n, fun | 17 => 3 | 18 => 4 | 19 => 5 | n => n⟩
theorem Tryz.lays246 : Go.Proofs.Lays.n246 Tryz.prog Tryz.lays246_ren := {
  mixed := by kernel_rfl
  f129 := Tryz.func125.trans (congrArg some (by kernel_rfl))
  f246 := Tryz.func192.trans (congrArg some (by kernel_rfl))
  f283 := Tryz.func202.trans (congrArg some (by kernel_rfl))
  f284 := Tryz.func203.trans (congrArg some (by kernel_rfl))
  f285 := Tryz.func204.trans (congrArg some (by kernel_rfl))
  f286 := Tryz.func205.trans (congrArg some (by kernel_rfl))
  f317 := Tryz.func213.trans (congrArg some (by kernel_rfl))
  f318 := Tryz.func214.trans (congrArg some (by kernel_rfl))
  f319 := Tryz.func215.trans (congrArg some (by kernel_rfl))
  f320 := Tryz.func216.trans (congrArg some (by kernel_rfl))
  f337 := Tryz.func219.trans (congrArg some (by kernel_rfl))
  f338 := Tryz.func220.trans (congrArg some (by kernel_rfl))
  t0 := Tryz.underlying0
  a0 := Tryz.isAgg0
  z0 := Tryz.sizeOf0
  v0 := Tryz.zeroValue0
  t2 := Tryz.underlying2
  a2 := Tryz.isAgg2
  z2 := Tryz.sizeOf2
  v2 := Tryz.zeroValue2
  t3 := Tryz.underlying3
  a3 := Tryz.isAgg3
  z3 := Tryz.sizeOf3
  v3 := Tryz.zeroValue3
  t4 := Tryz.underlying4
  a4 := Tryz.isAgg4
  z4 := Tryz.sizeOf4
  v4 := Tryz.zeroValue4
  t5 := Tryz.underlying5
  a5 := Tryz.isAgg5
  z5 := Tryz.sizeOf5
  v5 := Tryz.zeroValue5
  t9 := Tryz.underlying9
  a9 := Tryz.isAgg9
  z9 := Tryz.sizeOf9
  v9 := Tryz.zeroValue9
  t20 := Tryz.underlying20
  a20 := Tryz.isAgg20
  z20 := Tryz.sizeOf20
  v20 := Tryz.zeroValue20
  t37 := Tryz.underlying160
  a37 := Tryz.isAgg160
  z37 := Tryz.sizeOf160
  v37 := Tryz.zeroValue160
  t46 := Tryz.underlying110
  a46 := Tryz.isAgg110
  z46 := Tryz.sizeOf110
  v46 := Tryz.zeroValue110
  t51 := Tryz.underlying140
  a51 := Tryz.isAgg140
  z51 := Tryz.sizeOf140
  v51 := Tryz.zeroValue140
  t53 := Tryz.underlying142
  a53 := Tryz.isAgg142
  z53 := Tryz.sizeOf142
  v53 := Tryz.zeroValue142
  t171 := Tryz.underlying199
  a171 := Tryz.isAgg199
  z171 := Tryz.sizeOf199
  v171 := Tryz.zeroValue199
  t173 := Tryz.underlying201
  a173 := Tryz.isAgg201
  z173 := Tryz.sizeOf201
  v173 := Tryz.zeroValue201
  t212 := Tryz.underlying209
  a212 := Tryz.isAgg209
  z212 := Tryz.sizeOf209
  v212 := Tryz.zeroValue209
  t213 := Tryz.underlying210
  a213 := Tryz.isAgg210
  z213 := Tryz.sizeOf210
  t232 := Tryz.underlying211
  a232 := Tryz.isAgg211
  z232 := Tryz.sizeOf211
  v232 := Tryz.zeroValue211
  t233 := Tryz.underlying212
  a233 := Tryz.isAgg212
  z233 := Tryz.sizeOf212
  v233 := Tryz.zeroValue212
  g17 := by kernel_rfl
  g18 := by kernel_rfl
  g19 := by kernel_rfl }
open Go.RowKit Go.Sort Go.Lib in
theorem Tryz.internal_strconv_FormatInt_10_small (i : Nat) (hi : i < 100) (w : World) :
    Calls Tryz.prog 192 #[.int .i64 i, .int .i64 10] w fun e w' => e = .returned (.string ⟨(Lib.decDigits i).toArray⟩) ∧ w' = w := Any.internal_strconv_FormatInt_10_small Tryz.lays246 i hi w
def Tryz.laysM243_ren : Go.Shelf.Ren := ⟨fun | 243 => 182 | 246 => 192 | 283 => 202 | 284 => 203 | 285 => 204 | 286 => 205 | 129 => 125 | 317 => 213 | 318 => 214 | 319 => 215 | 320 => 216 | 337 => 219 | 338 => 220 | n => n, fun | 3 => 3 | 9 => 9 | 2 => 2 | 4 => 4 | 171 => 199 | 0 => 0 | 53 => 142 | 37 => 160 | 5 => 5 | 173 => 201 | 212 => 209 | 51 => 140 | 20 => 20 | 213 => 210 | 46 => 110 | 232 => 211 | 233 => 212 | n => n, fun | 17 => 3 | 18 => 4 | 19 => 5 | n => n⟩
theorem Tryz.laysM243 : Go.Proofs.LaysM.n243 Tryz.prog Tryz.laysM243_ren := {
  mixed := by kernel_rfl
  f129 := Tryz.func125.trans (congrArg some (by kernel_rfl))
  f243 := Tryz.func182.trans (congrArg some (by kernel_rfl))
  f246 := Tryz.func192.trans (congrArg some (by kernel_rfl))
  f283 := Tryz.func202.trans (congrArg some (by kernel_rfl))
  f284 := Tryz.func203.trans (congrArg some (by kernel_rfl))
  f285 := Tryz.func204.trans (congrArg some (by kernel_rfl))
  f286 := Tryz.func205.trans (congrArg some (by kernel_rfl))
  f317 := Tryz.func213.trans (congrArg some (by kernel_rfl))
  f318 := Tryz.func214.trans (congrArg some (by kernel_rfl))
  f319 := Tryz.func215.trans (congrArg some (by kernel_rfl))
  f320 := Tryz.func216.trans (congrArg some (by kernel_rfl))
  f337 := Tryz.func219.trans (congrArg some (by kernel_rfl))
  f338 := Tryz.func220.trans (congrArg some (by kernel_rfl))
  t0 := Tryz.underlying0
  a0 := Tryz.isAgg0
  z0 := Tryz.sizeOf0
  v0 := Tryz.zeroValue0
  t2 := Tryz.underlying2
  a2 := Tryz.isAgg2
  z2 := Tryz.sizeOf2
  v2 := Tryz.zeroValue2
  t3 := Tryz.underlying3
  a3 := Tryz.isAgg3
  z3 := Tryz.sizeOf3
  v3 := Tryz.zeroValue3
  t4 := Tryz.underlying4
  a4 := Tryz.isAgg4
  z4 := Tryz.sizeOf4
  v4 := Tryz.zeroValue4
  t5 := Tryz.underlying5
  a5 := Tryz.isAgg5
  z5 := Tryz.sizeOf5
  v5 := Tryz.zeroValue5
  t9 := Tryz.underlying9
  a9 := Tryz.isAgg9
  z9 := Tryz.sizeOf9
  v9 := Tryz.zeroValue9
  t20 := Tryz.underlying20
  a20 := Tryz.isAgg20
  z20 := Tryz.sizeOf20
  v20 := Tryz.zeroValue20
  t37 := Tryz.underlying160
  a37 := Tryz.isAgg160
  z37 := Tryz.sizeOf160
  v37 := Tryz.zeroValue160
  t46 := Tryz.underlying110
  a46 := Tryz.isAgg110
  z46 := Tryz.sizeOf110
  v46 := Tryz.zeroValue110
  t51 := Tryz.underlying140
  a51 := Tryz.isAgg140
  z51 := Tryz.sizeOf140
  v51 := Tryz.zeroValue140
  t53 := Tryz.underlying142
  a53 := Tryz.isAgg142
  z53 := Tryz.sizeOf142
  v53 := Tryz.zeroValue142
  t171 := Tryz.underlying199
  a171 := Tryz.isAgg199
  z171 := Tryz.sizeOf199
  v171 := Tryz.zeroValue199
  t173 := Tryz.underlying201
  a173 := Tryz.isAgg201
  z173 := Tryz.sizeOf201
  v173 := Tryz.zeroValue201
  t212 := Tryz.underlying209
  a212 := Tryz.isAgg209
  z212 := Tryz.sizeOf209
  v212 := Tryz.zeroValue209
  t213 := Tryz.underlying210
  a213 := Tryz.isAgg210
  z213 := Tryz.sizeOf210
  t232 := Tryz.underlying211
  a232 := Tryz.isAgg211
  z232 := Tryz.sizeOf211
  v232 := Tryz.zeroValue211
  t233 := Tryz.underlying212
  a233 := Tryz.isAgg212
  z233 := Tryz.sizeOf212
  v233 := Tryz.zeroValue212
  g17 := by kernel_rfl
  g18 := by kernel_rfl
  g19 := by kernel_rfl
  i0 := by kernel_rfl
  i2 := by kernel_rfl
  i3 := by kernel_rfl
  i4 := by kernel_rfl
  i5 := by kernel_rfl
  i9 := by kernel_rfl
  i20 := by kernel_rfl
  i37 := by kernel_rfl
  i46 := by kernel_rfl
  i51 := by kernel_rfl
  i53 := by kernel_rfl
  i171 := by kernel_rfl
  i173 := by kernel_rfl
  i212 := by kernel_rfl
  i232 := by kernel_rfl
  i233 := by kernel_rfl
  m17 := by kernel_rfl
  m18 := by kernel_rfl
  m19 := by kernel_rfl }
open Go.RowKit Go.Sort Go.Lib in
theorem Tryz.internal_strconv_Itoa (n : Int) (h0 : -9223372036854775808 ≤ n) (h1 : n ≤ 9223372036854775807) (w : World) (htab : Lib.TabIs Tryz.prog w "internal/strconv.uint64pow10" .u64 Lib.pow10Tab) :
    Calls Tryz.prog 182 #[.int .i64 n] w fun e w' => e = .returned (.string ⟨(Lib.itoa n).toArray⟩) ∧ ∃ k os, w' = grow (w.drewN k) os := Any.internal_strconv_Itoa Tryz.laysM243 n h0 h1 w htab
def Tryz.lays243_ren : Go.Shelf.Ren := ⟨fun | 243 => 182 | 246 => 192 | 283 => 202 | 284 => 203 | 285 => 204 | 286 => 205 | 129 => 125 | 317 => 213 | 318 => 214 | 319 => 215 | 320 => 216 | 337 => 219 | 338 => 220 | n => n, fun | 3 => 3 | 9 => 9 | 2 => 2 | 4 => 4 | 171 => 199 | 0 => 0 | 53 => 142 | 37 => 160 | 5 => 5 | 173 => 201 | 212 => 209 | 51 => 140 | 20 => 20 | 213 => 210 | 46 => 110 | 232 => 211 | 233 => 212 | n => n, fun | 17 => 3 | 18 => 4 | 19 => 5 | n => n⟩
theorem Tryz.lays243 : Go.Proofs.Lays.n243 Tryz.prog Tryz.lays243_ren := {
  mixed := by kernel_rfl
  f129 := Tryz.func125.trans (congrArg some (by kernel_rfl))
  f243 := Tryz.func182.trans (congrArg some (by kernel_rfl))
  f246 := Tryz.func192.trans (congrArg some (by kernel_rfl))
  f283 := Tryz.func202.trans (congrArg some (by kernel_rfl))
  f284 := Tryz.func203.trans (congrArg some (by kernel_rfl))
  f285 := Tryz.func204.trans (congrArg some (by kernel_rfl))
  f286 := Tryz.func205.trans (congrArg some (by kernel_rfl))
  f317 := Tryz.func213.trans (congrArg some (by kernel_rfl))
  f318 := Tryz.func214.trans (congrArg some (by kernel_rfl))
  f319 := Tryz.func215.trans (congrArg some (by kernel_rfl))
  f320 := Tryz.func216.trans (congrArg some (by kernel_rfl))
  f337 := Tryz.func219.trans (congrArg some (by kernel_rfl))
  f338 := Tryz.func220.trans (congrArg some (by kernel_rfl))
  t0 := Tryz.underlying0
  a0 := Tryz.isAgg0
  z0 := Tryz.sizeOf0
  v0 := Tryz.zeroValue0
  t2 := Tryz.underlying2
  a2 := Tryz.isAgg2
  z2 := Tryz.sizeOf2
  v2 := Tryz.zeroValue2
  t3 := Tryz.underlying3
  a3 := Tryz.isAgg3
  z3 := Tryz.sizeOf3
  v3 := Tryz.zeroValue3
  t4 := Tryz.underlying4
  a4 := Tryz.isAgg4
  z4 := Tryz.sizeOf4
  v4 := Tryz.zeroValue4
  t5 := Tryz.underlying5
  a5 := Tryz.isAgg5
  z5 := Tryz.sizeOf5
  v5 := Tryz.zeroValue5
  t9 := Tryz.underlying9
  a9 := Tryz.isAgg9
  z9 := Tryz.sizeOf9
  v9 := Tryz.zeroValue9
  t20 := Tryz.underlying20
  a20 := Tryz.isAgg20
  z20 := Tryz.sizeOf20
  v20 := Tryz.zeroValue20
  t37 := Tryz.underlying160
  a37 := Tryz.isAgg160
  z37 := Tryz.sizeOf160
  v37 := Tryz.zeroValue160
  t46 := Tryz.underlying110
  a46 := Tryz.isAgg110
  z46 := Tryz.sizeOf110
  v46 := Tryz.zeroValue110
  t51 := Tryz.underlying140
  a51 := Tryz.isAgg140
  z51 := Tryz.sizeOf140
  v51 := Tryz.zeroValue140
  t53 := Tryz.underlying142
  a53 := Tryz.isAgg142
  z53 := Tryz.sizeOf142
  v53 := Tryz.zeroValue142
  t171 := Tryz.underlying199
  a171 := Tryz.isAgg199
  z171 := Tryz.sizeOf199
  v171 := Tryz.zeroValue199
  t173 := Tryz.underlying201
  a173 := Tryz.isAgg201
  z173 := Tryz.sizeOf201
  v173 := Tryz.zeroValue201
  t212 := Tryz.underlying209
  a212 := Tryz.isAgg209
  z212 := Tryz.sizeOf209
  v212 := Tryz.zeroValue209
  t213 := Tryz.underlying210
  a213 := Tryz.isAgg210
  z213 := Tryz.sizeOf210
  t232 := Tryz.underlying211
  a232 := Tryz.isAgg211
  z232 := Tryz.sizeOf211
  v232 := Tryz.zeroValue211
  t233 := Tryz.underlying212
  a233 := Tryz.isAgg212
  z233 := Tryz.sizeOf212
  v233 := Tryz.zeroValue212
  g17 := by kernel_rfl
  g18 := by kernel_rfl
  g19 := by kernel_rfl }
open Go.RowKit Go.Sort Go.Lib in
theorem Tryz.internal_strconv_Itoa_small (i : Nat) (hi : i < 100) (w : World) :
    Calls Tryz.prog 182 #[.int .i64 i] w fun e w' => e = .returned (.string ⟨(Lib.decDigits i).toArray⟩) ∧ w' = w := Any.internal_strconv_Itoa_small Tryz.lays243 i hi w
def Tryz.laysM171_ren : Go.Shelf.Ren := ⟨fun | 171 => 169 | 243 => 182 | 246 => 192 | 283 => 202 | 284 => 203 | 285 => 204 | 286 => 205 | 129 => 125 | 317 => 213 | 318 => 214 | 319 => 215 | 320 => 216 | 337 => 219 | 338 => 220 | n => n, fun | 3 => 3 | 9 => 9 | 2 => 2 | 4 => 4 | 171 => 199 | 0 => 0 | 53 => 142 | 37 => 160 | 5 => 5 | 173 => 201 | 212 => 209 | 51 => 140 | 20 => 20 | 213 => 210 | 46 => 110 | 232 => 211 | 233 => 212 | n => n, fun | 17 => 3 | 18 => 4 | 19 => 5 | n => n⟩
theorem Tryz.laysM171 : Go.Proofs.LaysM.n171 Tryz.prog Tryz.laysM171_ren := {
  mixed := by kernel_rfl
  f129 := Tryz.func125.trans (congrArg some (by kernel_rfl))
  f171 := Tryz.func169.trans (congrArg some (by kernel_rfl))
  f243 := Tryz.func182.trans (congrArg some (by kernel_rfl))
  f246 := Tryz.func192.trans (congrArg some (by kernel_rfl))
  f283 := Tryz.func202.trans (congrArg some (by kernel_rfl))
  f284 := Tryz.func203.trans (congrArg some (by kernel_rfl))
  f285 := Tryz.func204.trans (congrArg some (by kernel_rfl))
  f286 := Tryz.func205.trans (congrArg some (by kernel_rfl))
  f317 := Tryz.func213.trans (congrArg some (by kernel_rfl))
  f318 := Tryz.func214.trans (congrArg some (by kernel_rfl))
  f319 := Tryz.func215.trans (congrArg some (by kernel_rfl))
  f320 := Tryz.func216.trans (congrArg some (by kernel_rfl))
  f337 := Tryz.func219.trans (congrArg some (by kernel_rfl))
  f338 := Tryz.func220.trans (congrArg some (by kernel_rfl))
  t0 := Tryz.underlying0
  a0 := Tryz.isAgg0
  z0 := Tryz.sizeOf0
  v0 := Tryz.zeroValue0
  t2 := Tryz.underlying2
  a2 := Tryz.isAgg2
  z2 := Tryz.sizeOf2
  v2 := Tryz.zeroValue2
  t3 := Tryz.underlying3
  a3 := Tryz.isAgg3
  z3 := Tryz.sizeOf3
  v3 := Tryz.zeroValue3
  t4 := Tryz.underlying4
  a4 := Tryz.isAgg4
  z4 := Tryz.sizeOf4
  v4 := Tryz.zeroValue4
  t5 := Tryz.underlying5
  a5 := Tryz.isAgg5
  z5 := Tryz.sizeOf5
  v5 := Tryz.zeroValue5
  t9 := Tryz.underlying9
  a9 := Tryz.isAgg9
  z9 := Tryz.sizeOf9
  v9 := Tryz.zeroValue9
  t20 := Tryz.underlying20
  a20 := Tryz.isAgg20
  z20 := Tryz.sizeOf20
  v20 := Tryz.zeroValue20
  t37 := Tryz.underlying160
  a37 := Tryz.isAgg160
  z37 := Tryz.sizeOf160
  v37 := Tryz.zeroValue160
  t46 := Tryz.underlying110
  a46 := Tryz.isAgg110
  z46 := Tryz.sizeOf110
  v46 := Tryz.zeroValue110
  t51 := Tryz.underlying140
  a51 := Tryz.isAgg140
  z51 := Tryz.sizeOf140
  v51 := Tryz.zeroValue140
  t53 := Tryz.underlying142
  a53 := Tryz.isAgg142
  z53 := Tryz.sizeOf142
  v53 := Tryz.zeroValue142
  t171 := Tryz.underlying199
  a171 := Tryz.isAgg199
  z171 := Tryz.sizeOf199
  v171 := Tryz.zeroValue199
  t173 := Tryz.underlying201
  a173 := Tryz.isAgg201
  z173 := Tryz.sizeOf201
  v173 := Tryz.zeroValue201
  t212 := Tryz.underlying209
  a212 := Tryz.isAgg209
  z212 := Tryz.sizeOf209
  v212 := Tryz.zeroValue209
  t213 := Tryz.underlying210
  a213 := Tryz.isAgg210
  z213 := Tryz.sizeOf210
  t232 := Tryz.underlying211
  a232 := Tryz.isAgg211
  z232 := Tryz.sizeOf211
  v232 := Tryz.zeroValue211
  t233 := Tryz.underlying212
  a233 := Tryz.isAgg212
  z233 := Tryz.sizeOf212
  v233 := Tryz.zeroValue212
  g17 := by kernel_rfl
  g18 := by kernel_rfl
  g19 := by kernel_rfl
  i0 := by kernel_rfl
  i2 := by kernel_rfl
  i3 := by kernel_rfl
  i4 := by kernel_rfl
  i5 := by kernel_rfl
  i9 := by kernel_rfl
  i20 := by kernel_rfl
  i37 := by kernel_rfl
  i46 := by kernel_rfl
  i51 := by kernel_rfl
  i53 := by kernel_rfl
  i171 := by kernel_rfl
  i173 := by kernel_rfl
  i212 := by kernel_rfl
  i232 := by kernel_rfl
  i233 := by kernel_rfl
  m17 := by kernel_rfl
  m18 := by kernel_rfl
  m19 := by kernel_rfl }
open Go.RowKit Go.Sort Go.Lib in
theorem Tryz.strconv_Itoa (n : Int) (h0 : -9223372036854775808 ≤ n) (h1 : n ≤ 9223372036854775807) (w : World) (htab : Lib.TabIs Tryz.prog w "internal/strconv.uint64pow10" .u64 Lib.pow10Tab) :
    Calls Tryz.prog 169 #[.int .i64 n] w fun e w' => e = .returned (.string ⟨(Lib.itoa n).toArray⟩) ∧ ∃ k os, w' = grow (w.drewN k) os := Any.strconv_Itoa Tryz.laysM171 n h0 h1 w htab
def Tryz.lays171_ren : Go.Shelf.Ren := ⟨fun | 171 => 169 | 243 => 182 | 246 => 192 | 283 => 202 | 284 => 203 | 285 => 204 | 286 => 205 | 129 => 125 | 317 => 213 | 318 => 214 | 319 => 215 | 320 => 216 | 337 => 219 | 338 => 220 | n => n, fun | 3 => 3 | 9 => 9 | 2 => 2 | 4 => 4 | 171 => 199 | 0 => 0 | 53 => 142 | 37 => 160 | 5 => 5 | 173 => 201 | 212 => 209 | 51 => 140 | 20 => 20 | 213 => 210 | 46 => 110 | 232 => 211 | 233 => 212 | n => n, fun | 17 => 3 | 18 => 4 | 19 => 5 | n => n⟩
theorem Tryz.lays171 : Go.Proofs.Lays.n171 Tryz.prog Tryz.lays171_ren := {
  mixed := by kernel_rfl
  f129 := Tryz.func125.trans (congrArg some (by kernel_rfl))
  f171 := Tryz.func169.trans (congrArg some (by kernel_rfl))
  f243 := Tryz.func182.trans (congrArg some (by kernel_rfl))
  f246 := Tryz.func192.trans (congrArg some (by kernel_rfl))
  f283 := Tryz.func202.trans (congrArg some (by kernel_rfl))
  f284 := Tryz.func203.trans (congrArg some (by kernel_rfl))
  f285 := Tryz.func204.trans (congrArg some (by kernel_rfl))
  f286 := Tryz.func205.trans (congrArg some (by kernel_rfl))
  f317 := Tryz.func213.trans (congrArg some (by kernel_rfl))
  f318 := Tryz.func214.trans (congrArg some (by kernel_rfl))
  f319 := Tryz.func215.trans (congrArg some (by kernel_rfl))
  f320 := Tryz.func216.trans (congrArg some (by kernel_rfl))
  f337 := Tryz.func219.trans (congrArg some (by kernel_rfl))
  f338 := Tryz.func220.trans (congrArg some (by kernel_rfl))
  t0 := Tryz.underlying0
  a0 := Tryz.isAgg0
  z0 := Tryz.sizeOf0
  v0 := Tryz.zeroValue0
  t2 := Tryz.underlying2
  a2 := Tryz.isAgg2
  z2 := Tryz.sizeOf2
  v2 := Tryz.zeroValue2
  t3 := Tryz.underlying3
  a3 := Tryz.isAgg3
  z3 := Tryz.sizeOf3
  v3 := Tryz.zeroValue3
  t4 := Tryz.underlying4
  a4 := Tryz.isAgg4
  z4 := Tryz.sizeOf4
  v4 := Tryz.zeroValue4
  t5 := Tryz.underlying5
  a5 := Tryz.isAgg5
  z5 := Tryz.sizeOf5
  v5 := Tryz.zeroValue5
  t9 := Tryz.underlying9
  a9 := Tryz.isAgg9
  z9 := Tryz.sizeOf9
  v9 := Tryz.zeroValue9
  t20 := Tryz.underlying20
  a20 := Tryz.isAgg20
  z20 := Tryz.sizeOf20
  v20 := Tryz.zeroValue20
  t37 := Tryz.underlying160
  a37 := Tryz.isAgg160
  z37 := Tryz.sizeOf160
  v37 := Tryz.zeroValue160
  t46 := Tryz.underlying110
  a46 := Tryz.isAgg110
  z46 := Tryz.sizeOf110
  v46 := Tryz.zeroValue110
  t51 := Tryz.underlying140
  a51 := Tryz.isAgg140
  z51 := Tryz.sizeOf140
  v51 := Tryz.zeroValue140
  t53 := Tryz.underlying142
  a53 := Tryz.isAgg142
  z53 := Tryz.sizeOf142
  v53 := Tryz.zeroValue142
  t171 := Tryz.underlying199
  a171 := Tryz.isAgg199
  z171 := Tryz.sizeOf199
  v171 := Tryz.zeroValue199
  t173 := Tryz.underlying201
  a173 := Tryz.isAgg201
  z173 := Tryz.sizeOf201
  v173 := Tryz.zeroValue201
  t212 := Tryz.underlying209
  a212 := Tryz.isAgg209
  z212 := Tryz.sizeOf209
  v212 := Tryz.zeroValue209
  t213 := Tryz.underlying210
  a213 := Tryz.isAgg210
  z213 := Tryz.sizeOf210
  t232 := Tryz.underlying211
  a232 := Tryz.isAgg211
  z232 := Tryz.sizeOf211
  v232 := Tryz.zeroValue211
  t233 := Tryz.underlying212
  a233 := Tryz.isAgg212
  z233 := Tryz.sizeOf212
  v233 := Tryz.zeroValue212
  g17 := by kernel_rfl
  g18 := by kernel_rfl
  g19 := by kernel_rfl }
open Go.RowKit Go.Sort Go.Lib in
theorem Tryz.strconv_Itoa_small (i : Nat) (hi : i < 100) (w : World) :
    Calls Tryz.prog 169 #[.int .i64 i] w fun e w' => e = .returned (.string ⟨(Lib.decDigits i).toArray⟩) ∧ w' = w := Any.strconv_Itoa_small Tryz.lays171 i hi w
open Go.RowKit in
theorem Tryz.internal_strconv_Atoi_err (s : ByteArray) (hl0 : 1 ≤ s.size) (hl : s.size ≤ 18) (h : Lib.atoi s.data.toList = none) (w : World) :
    Calls Tryz.prog 180 #[.string s] w fun e w' => e = .returned (.tuple #[.int .i64 0, (.iface 184 (.int .i64 2))]) ∧ (w' = w ∨ ∃ t, w' = Lib.bytesWorld w 5 t) := Any.internal_strconv_Atoi_err Tryz.lays244 s hl0 hl h w
def Tryz.lays247_ren : Go.Shelf.Ren := ⟨fun | 247 => 187 | 287 => 199 | 321 => 211 | 322 => 212 | n => n, fun | 9 => 9 | 3 => 3 | 2 => 2 | 75 => 171 | 4 => 4 | 167 => 184 | 5 => 5 | 53 => 142 | 175 => 193 | 46 => 110 | 37 => 160 | 0 => 0 | 21 => 21 | 80 => 213 | n => n, fun | n => n⟩
theorem Tryz.lays247 : Go.Proofs.Lays.n247 Tryz.prog Tryz.lays247_ren := {
  mixed := by kernel_rfl
  f247 := Tryz.func187.trans (congrArg some (by kernel_rfl))
  f287 := Tryz.func199.trans (congrArg some (by kernel_rfl))
  f321 := Tryz.func211.trans (congrArg some (by kernel_rfl))
  f322 := Tryz.func212.trans (congrArg some (by kernel_rfl))
  t0 := Tryz.underlying0
  a0 := Tryz.isAgg0
  z0 := Tryz.sizeOf0
  v0 := Tryz.zeroValue0
  t2 := Tryz.underlying2
  a2 := Tryz.isAgg2
  z2 := Tryz.sizeOf2
  v2 := Tryz.zeroValue2
  t3 := Tryz.underlying3
  a3 := Tryz.isAgg3
  z3 := Tryz.sizeOf3
  v3 := Tryz.zeroValue3
  t4 := Tryz.underlying4
  a4 := Tryz.isAgg4
  z4 := Tryz.sizeOf4
  v4 := Tryz.zeroValue4
  t5 := Tryz.underlying5
  a5 := Tryz.isAgg5
  z5 := Tryz.sizeOf5
  v5 := Tryz.zeroValue5
  t9 := Tryz.underlying9
  a9 := Tryz.isAgg9
  z9 := Tryz.sizeOf9
  v9 := Tryz.zeroValue9
  t21 := Tryz.underlying21
  a21 := Tryz.isAgg21
  z21 := Tryz.sizeOf21
  v21 := Tryz.zeroValue21
  t37 := Tryz.underlying160
  a37 := Tryz.isAgg160
  z37 := Tryz.sizeOf160
  v37 := Tryz.zeroValue160
  t46 := Tryz.underlying110
  a46 := Tryz.isAgg110
  z46 := Tryz.sizeOf110
  v46 := Tryz.zeroValue110
  t53 := Tryz.underlying142
  a53 := Tryz.isAgg142
  z53 := Tryz.sizeOf142
  v53 := Tryz.zeroValue142
  t75 := Tryz.underlying171
  a75 := Tryz.isAgg171
  z75 := Tryz.sizeOf171
  v75 := Tryz.zeroValue171
  t167 := Tryz.underlying184
  a167 := Tryz.isAgg184
  z167 := Tryz.sizeOf184
  v167 := Tryz.zeroValue184
  t175 := Tryz.underlying193
  a175 := Tryz.isAgg193
  z175 := Tryz.sizeOf193
  v175 := Tryz.zeroValue193 }
open Go.RowKit in
theorem Tryz.internal_strconv_ParseInt_empty (base bits : Int) (w : World) :
    Calls Tryz.prog 187 #[.string ⟨#[]⟩, .int .i64 base, .int .i64 bits] w fun e w' => e = .returned (.tuple #[.int .i64 0, (.iface 184 (.int .i64 2))]) ∧ w' = w := Any.internal_strconv_ParseInt_empty Tryz.lays247 base bits w
open Go.RowKit in
theorem Tryz.internal_strconv_Atoi_empty (w : World) :
    Calls Tryz.prog 180 #[.string ⟨#[]⟩] w fun e w' => e = .returned (.tuple #[.int .i64 0, (.iface 184 (.int .i64 2))]) ∧ w' = w := Any.internal_strconv_Atoi_empty Tryz.lays244 w
open Go.RowKit in
theorem Tryz.internal_strconv_Atoi_fail (s : ByteArray) (hl : s.size ≤ 18) (h : Lib.atoi s.data.toList = none) (w : World) :
    Calls Tryz.prog 180 #[.string s] w fun e w' => e = .returned (.tuple #[.int .i64 0, (.iface 184 (.int .i64 2))]) ∧ (w' = w ∨ ∃ t, w' = Lib.bytesWorld w 5 t) := Any.internal_strconv_Atoi_fail Tryz.lays244 s hl h w
def Tryz.laysM316_ren : Go.Shelf.Ren := ⟨fun | 316 => 200 | n => n, fun | 9 => 9 | 3 => 3 | 4 => 4 | 37 => 160 | 0 => 0 | 127 => 204 | 5 => 5 | n => n, fun | n => n⟩
theorem Tryz.laysM316 : Go.Proofs.LaysM.n316 Tryz.prog Tryz.laysM316_ren := {
  mixed := by kernel_rfl
  f316 := Tryz.func200.trans (congrArg some (by kernel_rfl))
  t0 := Tryz.underlying0
  a0 := Tryz.isAgg0
  z0 := Tryz.sizeOf0
  v0 := Tryz.zeroValue0
  t3 := Tryz.underlying3
  a3 := Tryz.isAgg3
  z3 := Tryz.sizeOf3
  v3 := Tryz.zeroValue3
  t4 := Tryz.underlying4
  a4 := Tryz.isAgg4
  z4 := Tryz.sizeOf4
  v4 := Tryz.zeroValue4
  t9 := Tryz.underlying9
  a9 := Tryz.isAgg9
  z9 := Tryz.sizeOf9
  v9 := Tryz.zeroValue9
  t37 := Tryz.underlying160
  a37 := Tryz.isAgg160
  z37 := Tryz.sizeOf160
  v37 := Tryz.zeroValue160
  t127 := Tryz.underlying204
  a127 := Tryz.isAgg204
  z127 := Tryz.sizeOf204
  v127 := Tryz.zeroValue204
  t5 := Tryz.underlying5
  a5 := Tryz.isAgg5
  z5 := Tryz.sizeOf5
  v5 := Tryz.zeroValue5
  i0 := by kernel_rfl
  i3 := by kernel_rfl
  i4 := by kernel_rfl
  i5 := by kernel_rfl
  i9 := by kernel_rfl
  i37 := by kernel_rfl
  i127 := by kernel_rfl }
open Go.RowKit in
theorem Tryz.stringslite_Clone (s : ByteArray) (w : World) (hlim : s.size ≤ 281474976710656) :
    Calls Tryz.prog 200 #[.string s] w fun e w' => e = .returned (.string s) ∧ Below w.heap.size w w' := Any.stringslite_Clone Tryz.laysM316 s w hlim
def Tryz.laysM279_ren : Go.Shelf.Ren := ⟨fun | 279 => 188 | 316 => 200 | n => n, fun | 9 => 9 | 168 => 187 | 75 => 171 | 210 => 197 | 3 => 3 | 4 => 4 | 37 => 160 | 0 => 0 | 127 => 204 | 80 => 213 | 5 => 5 | n => n, fun | 15 => 1 | n => n⟩
theorem Tryz.laysM279 : Go.Proofs.LaysM.n279 Tryz.prog Tryz.laysM279_ren := {
  mixed := by kernel_rfl
  f279 := Tryz.func188.trans (congrArg some (by kernel_rfl))
  f316 := Tryz.func200.trans (congrArg some (by kernel_rfl))
  t0 := Tryz.underlying0
  a0 := Tryz.isAgg0
  z0 := Tryz.sizeOf0
  v0 := Tryz.zeroValue0
  t3 := Tryz.underlying3
  a3 := Tryz.isAgg3
  z3 := Tryz.sizeOf3
  v3 := Tryz.zeroValue3
  t4 := Tryz.underlying4
  a4 := Tryz.isAgg4
  z4 := Tryz.sizeOf4
  v4 := Tryz.zeroValue4
  t9 := Tryz.underlying9
  a9 := Tryz.isAgg9
  z9 := Tryz.sizeOf9
  v9 := Tryz.zeroValue9
  t37 := Tryz.underlying160
  a37 := Tryz.isAgg160
  z37 := Tryz.sizeOf160
  v37 := Tryz.zeroValue160
  t75 := Tryz.underlying171
  a75 := Tryz.isAgg171
  z75 := Tryz.sizeOf171
  v75 := Tryz.zeroValue171
  t127 := Tryz.underlying204
  a127 := Tryz.isAgg204
  z127 := Tryz.sizeOf204
  v127 := Tryz.zeroValue204
  t168 := Tryz.underlying187
  a168 := Tryz.isAgg187
  z168 := Tryz.sizeOf187
  v168 := Tryz.zeroValue187
  t210 := Tryz.underlying197
  a210 := Tryz.isAgg197
  z210 := Tryz.sizeOf197
  v210 := Tryz.zeroValue197
  g15 := by kernel_rfl
  t5 := Tryz.underlying5
  a5 := Tryz.isAgg5
  z5 := Tryz.sizeOf5
  v5 := Tryz.zeroValue5
  t80 := Tryz.underlying213
  a80 := Tryz.isAgg213
  z80 := Tryz.sizeOf213
  v80 := Tryz.zeroValue213
  i0 := by kernel_rfl
  i3 := by kernel_rfl
  i4 := by kernel_rfl
  i5 := by kernel_rfl
  i9 := by kernel_rfl
  i37 := by kernel_rfl
  i75 := by kernel_rfl
  i80 := by kernel_rfl
  i127 := by kernel_rfl
  i168 := by kernel_rfl
  i210 := by kernel_rfl
  m15 := by kernel_rfl }
open Go.RowKit in
theorem Tryz.strconv_syntaxError (fn s : ByteArray) (ev : Value) (w : World) (hlim : s.size ≤ 281474976710656) (hv : w.cell? ⟨1, 0, none⟩ = some ev) (hev : ev = .nilIface ∨ ∃ te pe, ev = .iface te pe) :
    Calls Tryz.prog 188 #[.string fn, .string s] w fun e w' => ∃ N, e = .returned (.pointer (some ⟨N, 0, none⟩)) ∧ w.heap.size ≤ N ∧ w'.heap[N]? = some (.cells #[.string fn, .string s, ev] 197 (0, 0)) ∧ Below w.heap.size w w' := Any.strconv_syntaxError Tryz.laysM279 fn s ev w hlim hv hev
def Tryz.laysC245_ren : Go.Shelf.Ren := ⟨fun | 245 => 181 | 279 => 188 | 280 => 189 | 281 => 190 | 282 => 191 | 316 => 200 | 171 => 169 | 205 => 201 | 243 => 182 | 246 => 192 | 283 => 202 | 284 => 203 | 285 => 204 | 286 => 205 | 129 => 125 | 317 => 213 | 318 => 214 | 319 => 215 | 320 => 216 | 337 => 219 | 338 => 220 | n => n, fun | 9 => 9 | 3 => 3 | 75 => 171 | 167 => 184 | 4 => 4 | 168 => 187 | 210 => 197 | 37 => 160 | 0 => 0 | 127 => 204 | 145 => 207 | 143 => 205 | 2 => 2 | 171 => 199 | 53 => 142 | 5 => 5 | 173 => 201 | 212 => 209 | 51 => 140 | 20 => 20 | 213 => 210 | 46 => 110 | 232 => 211 | 233 => 212 | 80 => 213 | n => n, fun | 15 => 1 | 16 => 2 | 17 => 3 | 18 => 4 | 19 => 5 | n => n⟩
theorem Tryz.laysC245 : Go.Proofs.LaysC.n245 Tryz.prog Tryz.laysC245_ren := {
  mixed := by kernel_rfl
  f129 := Tryz.func125.trans (congrArg some (by kernel_rfl))
  f171 := Tryz.func169.trans (congrArg some (by kernel_rfl))
  f205 := Tryz.func201.trans (congrArg some (by kernel_rfl))
  f243 := Tryz.func182.trans (congrArg some (by kernel_rfl))
  f245 := Tryz.func181.trans (congrArg some (by kernel_rfl))
  f246 := Tryz.func192.trans (congrArg some (by kernel_rfl))
  f279 := Tryz.func188.trans (congrArg some (by kernel_rfl))
  f280 := Tryz.func189.trans (congrArg some (by kernel_rfl))
  f281 := Tryz.func190.trans (congrArg some (by kernel_rfl))
  f282 := Tryz.func191.trans (congrArg some (by kernel_rfl))
  f283 := Tryz.func202.trans (congrArg some (by kernel_rfl))
  f284 := Tryz.func203.trans (congrArg some (by kernel_rfl))
  f285 := Tryz.func204.trans (congrArg some (by kernel_rfl))
  f286 := Tryz.func205.trans (congrArg some (by kernel_rfl))
  f316 := Tryz.func200.trans (congrArg some (by kernel_rfl))
  f317 := Tryz.func213.trans (congrArg some (by kernel_rfl))
  f318 := Tryz.func214.trans (congrArg some (by kernel_rfl))
  f319 := Tryz.func215.trans (congrArg some (by kernel_rfl))
  f320 := Tryz.func216.trans (congrArg some (by kernel_rfl))
  f337 := Tryz.func219.trans (congrArg some (by kernel_rfl))
  f338 := Tryz.func220.trans (congrArg some (by kernel_rfl))
  t0 := Tryz.underlying0
  a0 := Tryz.isAgg0
  z0 := Tryz.sizeOf0
  v0 := Tryz.zeroValue0
  t2 := Tryz.underlying2
  a2 := Tryz.isAgg2
  z2 := Tryz.sizeOf2
  v2 := Tryz.zeroValue2
  t3 := Tryz.underlying3
  a3 := Tryz.isAgg3
  z3 := Tryz.sizeOf3
  v3 := Tryz.zeroValue3
  t4 := Tryz.underlying4
  a4 := Tryz.isAgg4
  z4 := Tryz.sizeOf4
  v4 := Tryz.zeroValue4
  t5 := Tryz.underlying5
  a5 := Tryz.isAgg5
  z5 := Tryz.sizeOf5
  v5 := Tryz.zeroValue5
  t9 := Tryz.underlying9
  a9 := Tryz.isAgg9
  z9 := Tryz.sizeOf9
  v9 := Tryz.zeroValue9
  t20 := Tryz.underlying20
  a20 := Tryz.isAgg20
  z20 := Tryz.sizeOf20
  v20 := Tryz.zeroValue20
  t37 := Tryz.underlying160
  a37 := Tryz.isAgg160
  z37 := Tryz.sizeOf160
  v37 := Tryz.zeroValue160
  t46 := Tryz.underlying110
  a46 := Tryz.isAgg110
  z46 := Tryz.sizeOf110
  v46 := Tryz.zeroValue110
  t51 := Tryz.underlying140
  a51 := Tryz.isAgg140
  z51 := Tryz.sizeOf140
  v51 := Tryz.zeroValue140
  t53 := Tryz.underlying142
  a53 := Tryz.isAgg142
  z53 := Tryz.sizeOf142
  v53 := Tryz.zeroValue142
  t75 := Tryz.underlying171
  a75 := Tryz.isAgg171
  z75 := Tryz.sizeOf171
  v75 := Tryz.zeroValue171
  t127 := Tryz.underlying204
  a127 := Tryz.isAgg204
  z127 := Tryz.sizeOf204
  v127 := Tryz.zeroValue204
  t143 := Tryz.underlying205
  a143 := Tryz.isAgg205
  z143 := Tryz.sizeOf205
  v143 := Tryz.zeroValue205
  t145 := Tryz.underlying207
  a145 := Tryz.isAgg207
  z145 := Tryz.sizeOf207
  v145 := Tryz.zeroValue207
  t167 := Tryz.underlying184
  a167 := Tryz.isAgg184
  z167 := Tryz.sizeOf184
  v167 := Tryz.zeroValue184
  t168 := Tryz.underlying187
  a168 := Tryz.isAgg187
  z168 := Tryz.sizeOf187
  v168 := Tryz.zeroValue187
  t171 := Tryz.underlying199
  a171 := Tryz.isAgg199
  z171 := Tryz.sizeOf199
  v171 := Tryz.zeroValue199
  t173 := Tryz.underlying201
  a173 := Tryz.isAgg201
  z173 := Tryz.sizeOf201
  v173 := Tryz.zeroValue201
  t210 := Tryz.underlying197
  a210 := Tryz.isAgg197
  z210 := Tryz.sizeOf197
  v210 := Tryz.zeroValue197
  t212 := Tryz.underlying209
  a212 := Tryz.isAgg209
  z212 := Tryz.sizeOf209
  v212 := Tryz.zeroValue209
  t213 := Tryz.underlying210
  a213 := Tryz.isAgg210
  z213 := Tryz.sizeOf210
  t232 := Tryz.underlying211
  a232 := Tryz.isAgg211
  z232 := Tryz.sizeOf211
  v232 := Tryz.zeroValue211
  t233 := Tryz.underlying212
  a233 := Tryz.isAgg212
  z233 := Tryz.sizeOf212
  v233 := Tryz.zeroValue212
  g15 := by kernel_rfl
  g16 := by kernel_rfl
  g17 := by kernel_rfl
  g18 := by kernel_rfl
  g19 := by kernel_rfl
  t80 := Tryz.underlying213
  a80 := Tryz.isAgg213
  z80 := Tryz.sizeOf213
  v80 := Tryz.zeroValue213
  i0 := by kernel_rfl
  i2 := by kernel_rfl
  i3 := by kernel_rfl
  i4 := by kernel_rfl
  i5 := by kernel_rfl
  i9 := by kernel_rfl
  i20 := by kernel_rfl
  i37 := by kernel_rfl
  i46 := by kernel_rfl
  i51 := by kernel_rfl
  i53 := by kernel_rfl
  i75 := by kernel_rfl
  i80 := by kernel_rfl
  i127 := by kernel_rfl
  i143 := by kernel_rfl
  i145 := by kernel_rfl
  i167 := by kernel_rfl
  i168 := by kernel_rfl
  i171 := by kernel_rfl
  i173 := by kernel_rfl
  i210 := by kernel_rfl
  i212 := by kernel_rfl
  i232 := by kernel_rfl
  i233 := by kernel_rfl
  m15 := by kernel_rfl
  m16 := by kernel_rfl
  m17 := by kernel_rfl
  m18 := by kernel_rfl
  m19 := by kernel_rfl
  c0 := by kernel_rfl
  c2 := by kernel_rfl
  c3 := by kernel_rfl
  c4 := by kernel_rfl
  c5 := by kernel_rfl
  c9 := by kernel_rfl
  c20 := by kernel_rfl
  c37 := by kernel_rfl
  c46 := by kernel_rfl
  c51 := by kernel_rfl
  c53 := by kernel_rfl
  c75 := by kernel_rfl
  c80 := by kernel_rfl
  c127 := by kernel_rfl
  c143 := by kernel_rfl
  c145 := by kernel_rfl
  c167 := by kernel_rfl
  c168 := by kernel_rfl
  c171 := by kernel_rfl
  c173 := by kernel_rfl
  c210 := by kernel_rfl
  c212 := by kernel_rfl
  c213 := by kernel_rfl
  c232 := by kernel_rfl
  c233 := by kernel_rfl }
open Go.RowKit in
theorem Tryz.strconv_toError_syntax (fn s : ByteArray) (base bits : Int) (ev : Value) (w : World) (hlim : s.size ≤ 281474976710656) (hv : w.cell? ⟨1, 0, none⟩ = some ev) (hev : ev = .nilIface ∨ ∃ te pe, ev = .iface te pe) :
    Calls Tryz.prog 181 #[.string fn, .string s, .int .i64 base, .int .i64 bits, .iface 184 (.int .i64 2)] w fun e w' => ∃ N, e = .returned (.iface 187 (.pointer (some ⟨N, 0, none⟩))) ∧ w.heap.size ≤ N ∧ w'.heap[N]? = some (.cells #[.string fn, .string s, ev] 197 (0, 0)) ∧ Below w.heap.size w w' := Any.strconv_toError_syntax Tryz.laysC245 fn s base bits ev w hlim hv hev
def Tryz.lays321_ren : Go.Shelf.Ren := ⟨fun | 321 => 211 | n => n, fun | 5 => 5 | n => n, fun | n => n⟩
theorem Tryz.lays321 : Go.Proofs.Lays.n321 Tryz.prog Tryz.lays321_ren := {
  mixed := by kernel_rfl
  f321 := Tryz.func211.trans (congrArg some (by kernel_rfl))
  t5 := Tryz.underlying5
  a5 := Tryz.isAgg5
  z5 := Tryz.sizeOf5
  v5 := Tryz.zeroValue5 }
open Go.RowKit in
theorem Tryz.internal_strconv_lower (c : Int) (w : World) :
    Calls Tryz.prog 211 #[.int .u8 c] w fun e w' => e = .returned (.int .u8 (bits .or .u8 c 32)) ∧ w' = w := Any.internal_strconv_lower Tryz.lays321 c w
def Tryz.lays287_ren : Go.Shelf.Ren := ⟨fun | 287 => 199 | 321 => 211 | 322 => 212 | n => n, fun | 9 => 9 | 3 => 3 | 53 => 142 | 75 => 171 | 4 => 4 | 167 => 184 | 5 => 5 | 46 => 110 | 37 => 160 | 0 => 0 | 21 => 21 | 80 => 213 | n => n, fun | n => n⟩
theorem Tryz.lays287 : Go.Proofs.Lays.n287 Tryz.prog Tryz.lays287_ren := {
  mixed := by kernel_rfl
  f287 := Tryz.func199.trans (congrArg some (by kernel_rfl))
  f321 := Tryz.func211.trans (congrArg some (by kernel_rfl))
  f322 := Tryz.func212.trans (congrArg some (by kernel_rfl))
  t0 := Tryz.underlying0
  a0 := Tryz.isAgg0
  z0 := Tryz.sizeOf0
  v0 := Tryz.zeroValue0
  t3 := Tryz.underlying3
  a3 := Tryz.isAgg3
  z3 := Tryz.sizeOf3
  v3 := Tryz.zeroValue3
  t4 := Tryz.underlying4
  a4 := Tryz.isAgg4
  z4 := Tryz.sizeOf4
  v4 := Tryz.zeroValue4
  t5 := Tryz.underlying5
  a5 := Tryz.isAgg5
  z5 := Tryz.sizeOf5
  v5 := Tryz.zeroValue5
  t9 := Tryz.underlying9
  a9 := Tryz.isAgg9
  z9 := Tryz.sizeOf9
  v9 := Tryz.zeroValue9
  t21 := Tryz.underlying21
  a21 := Tryz.isAgg21
  z21 := Tryz.sizeOf21
  v21 := Tryz.zeroValue21
  t37 := Tryz.underlying160
  a37 := Tryz.isAgg160
  z37 := Tryz.sizeOf160
  v37 := Tryz.zeroValue160
  t46 := Tryz.underlying110
  a46 := Tryz.isAgg110
  z46 := Tryz.sizeOf110
  v46 := Tryz.zeroValue110
  t53 := Tryz.underlying142
  a53 := Tryz.isAgg142
  z53 := Tryz.sizeOf142
  v53 := Tryz.zeroValue142
  t75 := Tryz.underlying171
  a75 := Tryz.isAgg171
  z75 := Tryz.sizeOf171
  v75 := Tryz.zeroValue171
  t167 := Tryz.underlying184
  a167 := Tryz.isAgg184
  z167 := Tryz.sizeOf184
  v167 := Tryz.zeroValue184 }
open Go.RowKit in
theorem Tryz.internal_strconv_ParseUint_10 (t : ByteArray) (hne : t.size ≠ 0) (hmax : t.size ≤ 9223372036854775806) (w : World) :
    Calls Tryz.prog 199 #[.string t, .int .i64 10, .int .i64 0] w fun e w' => e = .returned (Lib.uintTuple 184 (Lib.parseUint10 0 t.data.toList)) ∧ w' = Lib.bytesWorld w 5 t := Any.internal_strconv_ParseUint_10 Tryz.lays287 t hne hmax w
open Go.RowKit in
theorem Tryz.internal_strconv_ParseUint_10_any (t : ByteArray) (hmax : t.size ≤ 9223372036854775806) (w : World) :
    Calls Tryz.prog 199 #[.string t, .int .i64 10, .int .i64 0] w fun e w' => e = .returned (Lib.uintTuple 184 (Lib.parseMag t.data.toList)) ∧ (w' = w ∨ w' = Lib.bytesWorld w 5 t) := Any.internal_strconv_ParseUint_10_any Tryz.lays287 t hmax w
def Tryz.laysC247_ren : Go.Shelf.Ren := ⟨fun | 247 => 187 | 287 => 199 | 321 => 211 | 322 => 212 | n => n, fun | 9 => 9 | 3 => 3 | 2 => 2 | 75 => 171 | 4 => 4 | 167 => 184 | 5 => 5 | 53 => 142 | 175 => 193 | 46 => 110 | 37 => 160 | 0 => 0 | 21 => 21 | 80 => 213 | n => n, fun | n => n⟩
theorem Tryz.laysC247 : Go.Proofs.LaysC.n247 Tryz.prog Tryz.laysC247_ren := {
  mixed := by kernel_rfl
  f247 := Tryz.func187.trans (congrArg some (by kernel_rfl))
  f287 := Tryz.func199.trans (congrArg some (by kernel_rfl))
  f321 := Tryz.func211.trans (congrArg some (by kernel_rfl))
  f322 := Tryz.func212.trans (congrArg some (by kernel_rfl))
  t0 := Tryz.underlying0
  a0 := Tryz.isAgg0
  z0 := Tryz.sizeOf0
  v0 := Tryz.zeroValue0
  t2 := Tryz.underlying2
  a2 := Tryz.isAgg2
  z2 := Tryz.sizeOf2
  v2 := Tryz.zeroValue2
  t3 := Tryz.underlying3
  a3 := Tryz.isAgg3
  z3 := Tryz.sizeOf3
  v3 := Tryz.zeroValue3
  t4 := Tryz.underlying4
  a4 := Tryz.isAgg4
  z4 := Tryz.sizeOf4
  v4 := Tryz.zeroValue4
  t5 := Tryz.underlying5
  a5 := Tryz.isAgg5
  z5 := Tryz.sizeOf5
  v5 := Tryz.zeroValue5
  t9 := Tryz.underlying9
  a9 := Tryz.isAgg9
  z9 := Tryz.sizeOf9
  v9 := Tryz.zeroValue9
  t21 := Tryz.underlying21
  a21 := Tryz.isAgg21
  z21 := Tryz.sizeOf21
  v21 := Tryz.zeroValue21
  t37 := Tryz.underlying160
  a37 := Tryz.isAgg160
  z37 := Tryz.sizeOf160
  v37 := Tryz.zeroValue160
  t46 := Tryz.underlying110
  a46 := Tryz.isAgg110
  z46 := Tryz.sizeOf110
  v46 := Tryz.zeroValue110
  t53 := Tryz.underlying142
  a53 := Tryz.isAgg142
  z53 := Tryz.sizeOf142
  v53 := Tryz.zeroValue142
  t75 := Tryz.underlying171
  a75 := Tryz.isAgg171
  z75 := Tryz.sizeOf171
  v75 := Tryz.zeroValue171
  t167 := Tryz.underlying184
  a167 := Tryz.isAgg184
  z167 := Tryz.sizeOf184
  v167 := Tryz.zeroValue184
  t175 := Tryz.underlying193
  a175 := Tryz.isAgg193
  z175 := Tryz.sizeOf193
  v175 := Tryz.zeroValue193
  t80 := Tryz.underlying213
  a80 := Tryz.isAgg213
  z80 := Tryz.sizeOf213
  v80 := Tryz.zeroValue213
  i0 := by kernel_rfl
  i2 := by kernel_rfl
  i3 := by kernel_rfl
  i4 := by kernel_rfl
  i5 := by kernel_rfl
  i9 := by kernel_rfl
  i21 := by kernel_rfl
  i37 := by kernel_rfl
  i46 := by kernel_rfl
  i53 := by kernel_rfl
  i75 := by kernel_rfl
  i80 := by kernel_rfl
  i167 := by kernel_rfl
  i175 := by kernel_rfl
  c0 := by kernel_rfl
  c2 := by kernel_rfl
  c3 := by kernel_rfl
  c4 := by kernel_rfl
  c5 := by kernel_rfl
  c9 := by kernel_rfl
  c21 := by kernel_rfl
  c37 := by kernel_rfl
  c46 := by kernel_rfl
  c53 := by kernel_rfl
  c75 := by kernel_rfl
  c80 := by kernel_rfl
  c167 := by kernel_rfl
  c175 := by kernel_rfl }
open Go.RowKit in
theorem Tryz.internal_strconv_ParseInt_10 (s : ByteArray) (hne : s.size ≠ 0) (hmax : s.size ≤ 9223372036854775806) (w : World) :
    Calls Tryz.prog 187 #[.string s, .int .i64 10, .int .i64 0] w fun e w' => e = .returned (Lib.intTuple 184 (Lib.atoiSat s.data.toList) (Lib.atoiAll s.data.toList)) ∧ (w' = w ∨ ∃ t, w' = Lib.bytesWorld w 5 t) := Any.internal_strconv_ParseInt_10 Tryz.laysC247 s hne hmax w
def Tryz.laysC244_ren : Go.Shelf.Ren := ⟨fun | 244 => 180 | 247 => 187 | 287 => 199 | 321 => 211 | 322 => 212 | n => n, fun | 9 => 9 | 3 => 3 | 75 => 171 | 4 => 4 | 5 => 5 | 167 => 184 | 37 => 160 | 0 => 0 | 85 => 185 | 2 => 2 | 53 => 142 | 175 => 193 | 46 => 110 | 21 => 21 | 80 => 213 | n => n, fun | n => n⟩
theorem Tryz.laysC244 : Go.Proofs.LaysC.n244 Tryz.prog Tryz.laysC244_ren := {
  mixed := by kernel_rfl
  f244 := Tryz.func180.trans (congrArg some (by kernel_rfl))
  f247 := Tryz.func187.trans (congrArg some (by kernel_rfl))
  f287 := Tryz.func199.trans (congrArg some (by kernel_rfl))
  f321 := Tryz.func211.trans (congrArg some (by kernel_rfl))
  f322 := Tryz.func212.trans (congrArg some (by kernel_rfl))
  t0 := Tryz.underlying0
  a0 := Tryz.isAgg0
  z0 := Tryz.sizeOf0
  v0 := Tryz.zeroValue0
  t2 := Tryz.underlying2
  a2 := Tryz.isAgg2
  z2 := Tryz.sizeOf2
  v2 := Tryz.zeroValue2
  t3 := Tryz.underlying3
  a3 := Tryz.isAgg3
  z3 := Tryz.sizeOf3
  v3 := Tryz.zeroValue3
  t4 := Tryz.underlying4
  a4 := Tryz.isAgg4
  z4 := Tryz.sizeOf4
  v4 := Tryz.zeroValue4
  t5 := Tryz.underlying5
  a5 := Tryz.isAgg5
  z5 := Tryz.sizeOf5
  v5 := Tryz.zeroValue5
  t9 := Tryz.underlying9
  a9 := Tryz.isAgg9
  z9 := Tryz.sizeOf9
  v9 := Tryz.zeroValue9
  t21 := Tryz.underlying21
  a21 := Tryz.isAgg21
  z21 := Tryz.sizeOf21
  v21 := Tryz.zeroValue21
  t37 := Tryz.underlying160
  a37 := Tryz.isAgg160
  z37 := Tryz.sizeOf160
  v37 := Tryz.zeroValue160
  t46 := Tryz.underlying110
  a46 := Tryz.isAgg110
  z46 := Tryz.sizeOf110
  v46 := Tryz.zeroValue110
  t53 := Tryz.underlying142
  a53 := Tryz.isAgg142
  z53 := Tryz.sizeOf142
  v53 := Tryz.zeroValue142
  t75 := Tryz.underlying171
  a75 := Tryz.isAgg171
  z75 := Tryz.sizeOf171
  v75 := Tryz.zeroValue171
  t85 := Tryz.underlying185
  a85 := Tryz.isAgg185
  z85 := Tryz.sizeOf185
  v85 := Tryz.zeroValue185
  t167 := Tryz.underlying184
  a167 := Tryz.isAgg184
  z167 := Tryz.sizeOf184
  v167 := Tryz.zeroValue184
  t175 := Tryz.underlying193
  a175 := Tryz.isAgg193
  z175 := Tryz.sizeOf193
  v175 := Tryz.zeroValue193
  t80 := Tryz.underlying213
  a80 := Tryz.isAgg213
  z80 := Tryz.sizeOf213
  v80 := Tryz.zeroValue213
  i0 := by kernel_rfl
  i2 := by kernel_rfl
  i3 := by kernel_rfl
  i4 := by kernel_rfl
  i5 := by kernel_rfl
  i9 := by kernel_rfl
  i21 := by kernel_rfl
  i37 := by kernel_rfl
  i46 := by kernel_rfl
  i53 := by kernel_rfl
  i75 := by kernel_rfl
  i80 := by kernel_rfl
  i85 := by kernel_rfl
  i167 := by kernel_rfl
  i175 := by kernel_rfl
  c0 := by kernel_rfl
  c2 := by kernel_rfl
  c3 := by kernel_rfl
  c4 := by kernel_rfl
  c5 := by kernel_rfl
  c9 := by kernel_rfl
  c21 := by kernel_rfl
  c37 := by kernel_rfl
  c46 := by kernel_rfl
  c53 := by kernel_rfl
  c75 := by kernel_rfl
  c80 := by kernel_rfl
  c85 := by kernel_rfl
  c167 := by kernel_rfl
  c175 := by kernel_rfl }
open Go.RowKit in
theorem Tryz.internal_strconv_Atoi_long (s : ByteArray) (h19 : 19 ≤ s.size) (hmax : s.size ≤ 9223372036854775806) (w : World) :
    Calls Tryz.prog 180 #[.string s] w fun e w' => e = .returned (Lib.intTuple 184 (Lib.atoiSat s.data.toList) (Lib.atoiAll s.data.toList)) ∧ (w' = w ∨ ∃ t, w' = Lib.bytesWorld w 5 t) := Any.internal_strconv_Atoi_long Tryz.laysC244 s h19 hmax w
open Go.RowKit in
theorem Tryz.internal_strconv_Atoi_all (s : ByteArray) (hmax : s.size ≤ 9223372036854775806) (w : World) :
    Calls Tryz.prog 180 #[.string s] w fun e w' => e = .returned (Lib.intTuple 184 (Lib.atoiSat s.data.toList) (Lib.atoiAll s.data.toList)) ∧ (w' = w ∨ ∃ t, w' = Lib.bytesWorld w 5 t) := Any.internal_strconv_Atoi_all Tryz.laysC244 s hmax w
def Tryz.laysM280_ren : Go.Shelf.Ren := ⟨fun | 280 => 189 | 316 => 200 | n => n, fun | 9 => 9 | 168 => 187 | 75 => 171 | 210 => 197 | 3 => 3 | 4 => 4 | 37 => 160 | 0 => 0 | 127 => 204 | 80 => 213 | 5 => 5 | n => n, fun | 16 => 2 | n => n⟩
theorem Tryz.laysM280 : Go.Proofs.LaysM.n280 Tryz.prog Tryz.laysM280_ren := {
  mixed := by kernel_rfl
  f280 := Tryz.func189.trans (congrArg some (by kernel_rfl))
  f316 := Tryz.func200.trans (congrArg some (by kernel_rfl))
  t0 := Tryz.underlying0
  a0 := Tryz.isAgg0
  z0 := Tryz.sizeOf0
  v0 := Tryz.zeroValue0
  t3 := Tryz.underlying3
  a3 := Tryz.isAgg3
  z3 := Tryz.sizeOf3
  v3 := Tryz.zeroValue3
  t4 := Tryz.underlying4
  a4 := Tryz.isAgg4
  z4 := Tryz.sizeOf4
  v4 := Tryz.zeroValue4
  t9 := Tryz.underlying9
  a9 := Tryz.isAgg9
  z9 := Tryz.sizeOf9
  v9 := Tryz.zeroValue9
  t37 := Tryz.underlying160
  a37 := Tryz.isAgg160
  z37 := Tryz.sizeOf160
  v37 := Tryz.zeroValue160
  t75 := Tryz.underlying171
  a75 := Tryz.isAgg171
  z75 := Tryz.sizeOf171
  v75 := Tryz.zeroValue171
  t127 := Tryz.underlying204
  a127 := Tryz.isAgg204
  z127 := Tryz.sizeOf204
  v127 := Tryz.zeroValue204
  t168 := Tryz.underlying187
  a168 := Tryz.isAgg187
  z168 := Tryz.sizeOf187
  v168 := Tryz.zeroValue187
  t210 := Tryz.underlying197
  a210 := Tryz.isAgg197
  z210 := Tryz.sizeOf197
  v210 := Tryz.zeroValue197
  g16 := by kernel_rfl
  t5 := Tryz.underlying5
  a5 := Tryz.isAgg5
  z5 := Tryz.sizeOf5
  v5 := Tryz.zeroValue5
  t80 := Tryz.underlying213
  a80 := Tryz.isAgg213
  z80 := Tryz.sizeOf213
  v80 := Tryz.zeroValue213
  i0 := by kernel_rfl
  i3 := by kernel_rfl
  i4 := by kernel_rfl
  i5 := by kernel_rfl
  i9 := by kernel_rfl
  i37 := by kernel_rfl
  i75 := by kernel_rfl
  i80 := by kernel_rfl
  i127 := by kernel_rfl
  i168 := by kernel_rfl
  i210 := by kernel_rfl
  m16 := by kernel_rfl }
open Go.RowKit in
theorem Tryz.strconv_rangeError (fn s : ByteArray) (ev : Value) (w : World) (hlim : s.size ≤ 281474976710656) (hv : w.cell? ⟨2, 0, none⟩ = some ev) (hev : ev = .nilIface ∨ ∃ te pe, ev = .iface te pe) :
    Calls Tryz.prog 189 #[.string fn, .string s] w fun e w' => ∃ N, e = .returned (.pointer (some ⟨N, 0, none⟩)) ∧ w.heap.size ≤ N ∧ w'.heap[N]? = some (.cells #[.string fn, .string s, ev] 197 (0, 0)) ∧ Below w.heap.size w w' := Any.strconv_rangeError Tryz.laysM280 fn s ev w hlim hv hev
open Go.RowKit in
theorem Tryz.strconv_toError_range (fn s : ByteArray) (base bits : Int) (ev : Value) (w : World) (hlim : s.size ≤ 281474976710656) (hv : w.cell? ⟨2, 0, none⟩ = some ev) (hev : ev = .nilIface ∨ ∃ te pe, ev = .iface te pe) :
    Calls Tryz.prog 181 #[.string fn, .string s, .int .i64 base, .int .i64 bits, .iface 184 (.int .i64 1)] w fun e w' => ∃ N, e = .returned (.iface 187 (.pointer (some ⟨N, 0, none⟩))) ∧ w.heap.size ≤ N ∧ w'.heap[N]? = some (.cells #[.string fn, .string s, ev] 197 (0, 0)) ∧ Below w.heap.size w w' := Any.strconv_toError_range Tryz.laysC245 fn s base bits ev w hlim hv hev
def Tryz.laysC172_ren : Go.Shelf.Ren := ⟨fun | 172 => 168 | 244 => 180 | 245 => 181 | 247 => 187 | 279 => 188 | 280 => 189 | 281 => 190 | 282 => 191 | 287 => 199 | 316 => 200 | 171 => 169 | 205 => 201 | 321 => 211 | 322 => 212 | 243 => 182 | 246 => 192 | 283 => 202 | 284 => 203 | 285 => 204 | 286 => 205 | 129 => 125 | 317 => 213 | 318 => 214 | 319 => 215 | 320 => 216 | 337 => 219 | 338 => 220 | n => n, fun | 9 => 9 | 3 => 3 | 75 => 171 | 76 => 172 | 4 => 4 | 5 => 5 | 167 => 184 | 37 => 160 | 0 => 0 | 85 => 185 | 2 => 2 | 168 => 187 | 53 => 142 | 175 => 193 | 46 => 110 | 210 => 197 | 127 => 204 | 145 => 207 | 143 => 205 | 21 => 21 | 171 => 199 | 173 => 201 | 212 => 209 | 51 => 140 | 20 => 20 | 213 => 210 | 232 => 211 | 233 => 212 | 80 => 213 | n => n, fun | 15 => 1 | 16 => 2 | 17 => 3 | 18 => 4 | 19 => 5 | n => n⟩
theorem Tryz.laysC172 : Go.Proofs.LaysC.n172 Tryz.prog Tryz.laysC172_ren := {
  mixed := by kernel_rfl
  f129 := Tryz.func125.trans (congrArg some (by kernel_rfl))
  f171 := Tryz.func169.trans (congrArg some (by kernel_rfl))
  f172 := Tryz.func168.trans (congrArg some (by kernel_rfl))
  f205 := Tryz.func201.trans (congrArg some (by kernel_rfl))
  f243 := Tryz.func182.trans (congrArg some (by kernel_rfl))
  f244 := Tryz.func180.trans (congrArg some (by kernel_rfl))
  f245 := Tryz.func181.trans (congrArg some (by kernel_rfl))
  f246 := Tryz.func192.trans (congrArg some (by kernel_rfl))
  f247 := Tryz.func187.trans (congrArg some (by kernel_rfl))
  f279 := Tryz.func188.trans (congrArg some (by kernel_rfl))
  f280 := Tryz.func189.trans (congrArg some (by kernel_rfl))
  f281 := Tryz.func190.trans (congrArg some (by kernel_rfl))
  f282 := Tryz.func191.trans (congrArg some (by kernel_rfl))
  f283 := Tryz.func202.trans (congrArg some (by kernel_rfl))
  f284 := Tryz.func203.trans (congrArg some (by kernel_rfl))
  f285 := Tryz.func204.trans (congrArg some (by kernel_rfl))
  f286 := Tryz.func205.trans (congrArg some (by kernel_rfl))
  f287 := Tryz.func199.trans (congrArg some (by kernel_rfl))
  f316 := Tryz.func200.trans (congrArg some (by kernel_rfl))
  f317 := Tryz.func213.trans (congrArg some (by kernel_rfl))
  f318 := Tryz.func214.trans (congrArg some (by kernel_rfl))
  f319 := Tryz.func215.trans (congrArg some (by kernel_rfl))
  f320 := Tryz.func216.trans (congrArg some (by kernel_rfl))
  f321 := Tryz.func211.trans (congrArg some (by kernel_rfl))
  f322 := Tryz.func212.trans (congrArg some (by kernel_rfl))
  f337 := Tryz.func219.trans (congrArg some (by kernel_rfl))
  f338 := Tryz.func220.trans (congrArg some (by kernel_rfl))
  t0 := Tryz.underlying0
  a0 := Tryz.isAgg0
  z0 := Tryz.sizeOf0
  v0 := Tryz.zeroValue0
  t2 := Tryz.underlying2
  a2 := Tryz.isAgg2
  z2 := Tryz.sizeOf2
  v2 := Tryz.zeroValue2
  t3 := Tryz.underlying3
  a3 := Tryz.isAgg3
  z3 := Tryz.sizeOf3
  v3 := Tryz.zeroValue3
  t4 := Tryz.underlying4
  a4 := Tryz.isAgg4
  z4 := Tryz.sizeOf4
  v4 := Tryz.zeroValue4
  t5 := Tryz.underlying5
  a5 := Tryz.isAgg5
  z5 := Tryz.sizeOf5
  v5 := Tryz.zeroValue5
  t9 := Tryz.underlying9
  a9 := Tryz.isAgg9
  z9 := Tryz.sizeOf9
  v9 := Tryz.zeroValue9
  t20 := Tryz.underlying20
  a20 := Tryz.isAgg20
  z20 := Tryz.sizeOf20
  v20 := Tryz.zeroValue20
  t21 := Tryz.underlying21
  a21 := Tryz.isAgg21
  z21 := Tryz.sizeOf21
  v21 := Tryz.zeroValue21
  t37 := Tryz.underlying160
  a37 := Tryz.isAgg160
  z37 := Tryz.sizeOf160
  v37 := Tryz.zeroValue160
  t46 := Tryz.underlying110
  a46 := Tryz.isAgg110
  z46 := Tryz.sizeOf110
  v46 := Tryz.zeroValue110
  t51 := Tryz.underlying140
  a51 := Tryz.isAgg140
  z51 := Tryz.sizeOf140
  v51 := Tryz.zeroValue140
  t53 := Tryz.underlying142
  a53 := Tryz.isAgg142
  z53 := Tryz.sizeOf142
  v53 := Tryz.zeroValue142
  t75 := Tryz.underlying171
  a75 := Tryz.isAgg171
  z75 := Tryz.sizeOf171
  v75 := Tryz.zeroValue171
  t76 := Tryz.underlying172
  a76 := Tryz.isAgg172
  z76 := Tryz.sizeOf172
  v76 := Tryz.zeroValue172
  t85 := Tryz.underlying185
  a85 := Tryz.isAgg185
  z85 := Tryz.sizeOf185
  v85 := Tryz.zeroValue185
  t127 := Tryz.underlying204
  a127 := Tryz.isAgg204
  z127 := Tryz.sizeOf204
  v127 := Tryz.zeroValue204
  t143 := Tryz.underlying205
  a143 := Tryz.isAgg205
  z143 := Tryz.sizeOf205
  v143 := Tryz.zeroValue205
  t145 := Tryz.underlying207
  a145 := Tryz.isAgg207
  z145 := Tryz.sizeOf207
  v145 := Tryz.zeroValue207
  t167 := Tryz.underlying184
  a167 := Tryz.isAgg184
  z167 := Tryz.sizeOf184
  v167 := Tryz.zeroValue184
  t168 := Tryz.underlying187
  a168 := Tryz.isAgg187
  z168 := Tryz.sizeOf187
  v168 := Tryz.zeroValue187
  t171 := Tryz.underlying199
  a171 := Tryz.isAgg199
  z171 := Tryz.sizeOf199
  v171 := Tryz.zeroValue199
  t173 := Tryz.underlying201
  a173 := Tryz.isAgg201
  z173 := Tryz.sizeOf201
  v173 := Tryz.zeroValue201
  t175 := Tryz.underlying193
  a175 := Tryz.isAgg193
  z175 := Tryz.sizeOf193
  v175 := Tryz.zeroValue193
  t210 := Tryz.underlying197
  a210 := Tryz.isAgg197
  z210 := Tryz.sizeOf197
  v210 := Tryz.zeroValue197
  t212 := Tryz.underlying209
  a212 := Tryz.isAgg209
  z212 := Tryz.sizeOf209
  v212 := Tryz.zeroValue209
  t213 := Tryz.underlying210
  a213 := Tryz.isAgg210
  z213 := Tryz.sizeOf210
  t232 := Tryz.underlying211
  a232 := Tryz.isAgg211
  z232 := Tryz.sizeOf211
  v232 := Tryz.zeroValue211
  t233 := Tryz.underlying212
  a233 := Tryz.isAgg212
  z233 := Tryz.sizeOf212
  v233 := Tryz.zeroValue212
  g15 := by kernel_rfl
  g16 := by kernel_rfl
  g17 := by kernel_rfl
  g18 := by kernel_rfl
  g19 := by kernel_rfl
  t80 := Tryz.underlying213
  a80 := Tryz.isAgg213
  z80 := Tryz.sizeOf213
  v80 := Tryz.zeroValue213
  i0 := by kernel_rfl
  i2 := by kernel_rfl
  i3 := by kernel_rfl
  i4 := by kernel_rfl
  i5 := by kernel_rfl
  i9 := by kernel_rfl
  i20 := by kernel_rfl
  i21 := by kernel_rfl
  i37 := by kernel_rfl
  i46 := by kernel_rfl
  i51 := by kernel_rfl
  i53 := by kernel_rfl
  i75 := by kernel_rfl
  i76 := by kernel_rfl
  i80 := by kernel_rfl
  i85 := by kernel_rfl
  i127 := by kernel_rfl
  i143 := by kernel_rfl
  i145 := by kernel_rfl
  i167 := by kernel_rfl
  i168 := by kernel_rfl
  i171 := by kernel_rfl
  i173 := by kernel_rfl
  i175 := by kernel_rfl
  i210 := by kernel_rfl
  i212 := by kernel_rfl
  i232 := by kernel_rfl
  i233 := by kernel_rfl
  m15 := by kernel_rfl
  m16 := by kernel_rfl
  m17 := by kernel_rfl
  m18 := by kernel_rfl
  m19 := by kernel_rfl
  c0 := by kernel_rfl
  c2 := by kernel_rfl
  c3 := by kernel_rfl
  c4 := by kernel_rfl
  c5 := by kernel_rfl
  c9 := by kernel_rfl
  c20 := by kernel_rfl
  c21 := by kernel_rfl
  c37 := by kernel_rfl
  c46 := by kernel_rfl
  c51 := by kernel_rfl
  c53 := by kernel_rfl
  c75 := by kernel_rfl
  c76 := by kernel_rfl
  c80 := by kernel_rfl
  c85 := by kernel_rfl
  c127 := by kernel_rfl
  c143 := by kernel_rfl
  c145 := by kernel_rfl
  c167 := by kernel_rfl
  c168 := by kernel_rfl
  c171 := by kernel_rfl
  c173 := by kernel_rfl
  c175 := by kernel_rfl
  c210 := by kernel_rfl
  c212 := by kernel_rfl
  c213 := by kernel_rfl
  c232 := by kernel_rfl
  c233 := by kernel_rfl }
open Go.RowKit in
theorem Tryz.strconv_Atoi_ok (s : ByteArray) (hmax : s.size ≤ 9223372036854775806) (v : Int) (h : Lib.atoiAll s.data.toList = .ok v) (w : World) :
    Calls Tryz.prog 168 #[.string s] w fun e w' => e = .returned (.tuple #[.int .i64 v, .nilIface]) ∧ (w' = w ∨ ∃ t, w' = Lib.bytesWorld w 5 t) := Any.strconv_Atoi_ok Tryz.laysC172 s hmax v h w
open Go.RowKit in
theorem Tryz.strconv_Atoi_syntax (s : ByteArray) (hlim : s.size ≤ 281474976710656) (h : (∀ v, Lib.atoiAll s.data.toList ≠ .ok v) ∧ Lib.atoiAll s.data.toList ≠ .range) (ev : Value) (w : World) (hv : w.cell? ⟨1, 0, none⟩ = some ev) (hev : ev = .nilIface ∨ ∃ te pe, ev = .iface te pe) :
    Calls Tryz.prog 168 #[.string s] w fun e w' => ∃ N, e = .returned (.tuple #[.int .i64 (0), .iface 187 (.pointer (some ⟨N, 0, none⟩))]) ∧ w.heap.size ≤ N ∧ w'.heap[N]? = some (.cells #[.string ⟨#[65, 116, 111, 105]⟩, .string s, ev] 197 (0, 0)) ∧ Below w.heap.size w w' := Any.strconv_Atoi_syntax Tryz.laysC172 s hlim (by cases hx : Lib.atoiAll s.data.toList <;> simp_all) ev w hv hev
open Go.RowKit in
theorem Tryz.strconv_Atoi_range (s : ByteArray) (hlim : s.size ≤ 281474976710656) (h : Lib.atoiAll s.data.toList = .range) (ev : Value) (w : World) (hv : w.cell? ⟨2, 0, none⟩ = some ev) (hev : ev = .nilIface ∨ ∃ te pe, ev = .iface te pe) :
    Calls Tryz.prog 168 #[.string s] w fun e w' => ∃ N, e = .returned (.tuple #[.int .i64 (Lib.atoiSat s.data.toList), .iface 187 (.pointer (some ⟨N, 0, none⟩))]) ∧ w.heap.size ≤ N ∧ w'.heap[N]? = some (.cells #[.string ⟨#[65, 116, 111, 105]⟩, .string s, ev] 197 (0, 0)) ∧ Below w.heap.size w w' := Any.strconv_Atoi_range Tryz.laysC172 s hlim h ev w hv hev
def Tryz.lays217_ren : Go.Shelf.Ren := ⟨fun | 217 => 111 | 266 => 156 | n => n, fun | 9 => 9 | 5 => 5 | 3 => 3 | n => n, fun | n => n⟩
theorem Tryz.lays217 : Go.Proofs.Lays.n217 Tryz.prog Tryz.lays217_ren := {
  mixed := by kernel_rfl
  f217 := Tryz.func111.trans (congrArg some (by kernel_rfl))
  f266 := Tryz.func156.trans (congrArg some (by kernel_rfl))
  t3 := Tryz.underlying3
  a3 := Tryz.isAgg3
  z3 := Tryz.sizeOf3
  v3 := Tryz.zeroValue3
  t5 := Tryz.underlying5
  a5 := Tryz.isAgg5
  z5 := Tryz.sizeOf5
  v5 := Tryz.zeroValue5
  t9 := Tryz.underlying9
  a9 := Tryz.isAgg9
  z9 := Tryz.sizeOf9
  v9 := Tryz.zeroValue9 }
open Go.RowKit Go.Lib in
theorem Tryz.stringslite_IndexByte (s : ByteArray) (c : Int) (w : World) :
    Calls Tryz.prog 111 #[.string s, .int .u8 c] w fun e w' => e = .returned (.int .i64 (Lib.indexByte s.data.toList c.toNat.toUInt8)) ∧ w' = w := Any.stringslite_IndexByte Tryz.lays217 s c w
def Tryz.lays224_ren : Go.Shelf.Ren := ⟨fun | 224 => 176 | n => n, fun | 3 => 3 | n => n, fun | n => n⟩
theorem Tryz.lays224 : Go.Proofs.Lays.n224 Tryz.prog Tryz.lays224_ren := {
  mixed := by kernel_rfl
  f224 := Tryz.func176.trans (congrArg some (by kernel_rfl))
  t3 := Tryz.underlying3
  a3 := Tryz.isAgg3
  z3 := Tryz.sizeOf3
  v3 := Tryz.zeroValue3 }
open Go.RowKit Go.Lib in
theorem Tryz.bytealg_Cutover (n : Int) (h0 : 0 ≤ n) (h1 : n < 4611686018427387904) (w : World) :
    Calls Tryz.prog 176 #[.int .i64 n] w fun e w' => e = .returned (.int .i64 ((n + 16) / 8)) ∧ w' = w := Any.bytealg_Cutover Tryz.lays224 n h0 h1 w
def Tryz.lays314_ren : Go.Shelf.Ren := ⟨fun | 314 => 186 | n => n, fun | 9 => 9 | 51 => 140 | 3 => 3 | 4 => 4 | 5 => 5 | 46 => 110 | n => n, fun | n => n⟩
theorem Tryz.lays314 : Go.Proofs.Lays.n314 Tryz.prog Tryz.lays314_ren := {
  mixed := by kernel_rfl
  f314 := Tryz.func186.trans (congrArg some (by kernel_rfl))
  t3 := Tryz.underlying3
  a3 := Tryz.isAgg3
  z3 := Tryz.sizeOf3
  v3 := Tryz.zeroValue3
  t4 := Tryz.underlying4
  a4 := Tryz.isAgg4
  z4 := Tryz.sizeOf4
  v4 := Tryz.zeroValue4
  t5 := Tryz.underlying5
  a5 := Tryz.isAgg5
  z5 := Tryz.sizeOf5
  v5 := Tryz.zeroValue5
  t9 := Tryz.underlying9
  a9 := Tryz.isAgg9
  z9 := Tryz.sizeOf9
  v9 := Tryz.zeroValue9
  t46 := Tryz.underlying110
  a46 := Tryz.isAgg110
  z46 := Tryz.sizeOf110
  v46 := Tryz.zeroValue110
  t51 := Tryz.underlying140
  a51 := Tryz.isAgg140
  z51 := Tryz.sizeOf140
  v51 := Tryz.zeroValue140 }
open Go.RowKit Go.Lib in
theorem Tryz.bytealg_hashStr (sep : ByteArray) (hs : sep.size < 4294967281) (w : World) :
    Calls Tryz.prog 186 #[.string sep] w fun e w' => e = .returned (.tuple #[.int .u32 (RK.H sep.data.toList % 4294967296), .int .u32 (16777619 ^ sep.size % 4294967296)]) ∧ w' = w := Any.bytealg_hashStr Tryz.lays314 sep hs w
def Tryz.lays267_ren : Go.Shelf.Ren := ⟨fun | 267 => 177 | 314 => 186 | n => n, fun | 9 => 9 | 3 => 3 | 146 => 182 | 51 => 140 | 4 => 4 | 5 => 5 | 46 => 110 | n => n, fun | n => n⟩
theorem Tryz.lays267 : Go.Proofs.Lays.n267 Tryz.prog Tryz.lays267_ren := {
  mixed := by kernel_rfl
  f267 := Tryz.func177.trans (congrArg some (by kernel_rfl))
  f314 := Tryz.func186.trans (congrArg some (by kernel_rfl))
  t3 := Tryz.underlying3
  a3 := Tryz.isAgg3
  z3 := Tryz.sizeOf3
  v3 := Tryz.zeroValue3
  t4 := Tryz.underlying4
  a4 := Tryz.isAgg4
  z4 := Tryz.sizeOf4
  v4 := Tryz.zeroValue4
  t5 := Tryz.underlying5
  a5 := Tryz.isAgg5
  z5 := Tryz.sizeOf5
  v5 := Tryz.zeroValue5
  t9 := Tryz.underlying9
  a9 := Tryz.isAgg9
  z9 := Tryz.sizeOf9
  v9 := Tryz.zeroValue9
  t46 := Tryz.underlying110
  a46 := Tryz.isAgg110
  z46 := Tryz.sizeOf110
  v46 := Tryz.zeroValue110
  t51 := Tryz.underlying140
  a51 := Tryz.isAgg140
  z51 := Tryz.sizeOf140
  v51 := Tryz.zeroValue140
  t146 := Tryz.underlying182
  a146 := Tryz.isAgg182
  z146 := Tryz.sizeOf182
  v146 := Tryz.zeroValue182 }
open Go.RowKit Go.Lib in
theorem Tryz.bytealg_IndexRabinKarp (s sep : ByteArray) (h1 : 1 ≤ sep.size) (h2 : sep.size ≤ s.size) (hs : s.size < 4294967281) (w : World) :
    Calls Tryz.prog 177 #[.string s, .string sep] w fun e w' => e = .returned (.int .i64 (Lib.index s.data.toList sep.data.toList)) ∧ w' = w := Any.bytealg_IndexRabinKarp Tryz.lays267 s sep h1 h2 hs w
def Tryz.lays219_ren : Go.Shelf.Ren := ⟨fun | 219 => 157 | 217 => 111 | 225 => 175 | 224 => 176 | 267 => 177 | 266 => 156 | 314 => 186 | n => n, fun | 9 => 9 | 3 => 3 | 4 => 4 | 5 => 5 | 46 => 110 | 146 => 182 | 51 => 140 | n => n, fun | 1 => 0 | n => n⟩
theorem Tryz.lays219 : Go.Proofs.Lays.n219 Tryz.prog Tryz.lays219_ren := {
  mixed := by kernel_rfl
  f217 := Tryz.func111.trans (congrArg some (by kernel_rfl))
  f219 := Tryz.func157.trans (congrArg some (by kernel_rfl))
  f224 := Tryz.func176.trans (congrArg some (by kernel_rfl))
  f225 := Tryz.func175.trans (congrArg some (by kernel_rfl))
  f266 := Tryz.func156.trans (congrArg some (by kernel_rfl))
  f267 := Tryz.func177.trans (congrArg some (by kernel_rfl))
  f314 := Tryz.func186.trans (congrArg some (by kernel_rfl))
  t3 := Tryz.underlying3
  a3 := Tryz.isAgg3
  z3 := Tryz.sizeOf3
  v3 := Tryz.zeroValue3
  t4 := Tryz.underlying4
  a4 := Tryz.isAgg4
  z4 := Tryz.sizeOf4
  v4 := Tryz.zeroValue4
  t5 := Tryz.underlying5
  a5 := Tryz.isAgg5
  z5 := Tryz.sizeOf5
  v5 := Tryz.zeroValue5
  t9 := Tryz.underlying9
  a9 := Tryz.isAgg9
  z9 := Tryz.sizeOf9
  v9 := Tryz.zeroValue9
  t46 := Tryz.underlying110
  a46 := Tryz.isAgg110
  z46 := Tryz.sizeOf110
  v46 := Tryz.zeroValue110
  t51 := Tryz.underlying140
  a51 := Tryz.isAgg140
  z51 := Tryz.sizeOf140
  v51 := Tryz.zeroValue140
  t146 := Tryz.underlying182
  a146 := Tryz.isAgg182
  z146 := Tryz.sizeOf182
  v146 := Tryz.zeroValue182
  g1 := by kernel_rfl }
open Go.RowKit Go.Lib in
theorem Tryz.stringslite_Index_one (s : ByteArray) (c : UInt8) (w : World) :
    Calls Tryz.prog 157 #[.string s, .string ⟨#[c]⟩] w fun e w' => e = .returned (.int .i64 (Lib.indexByte s.data.toList c)) ∧ w' = w := Any.stringslite_Index_one Tryz.lays219 s c w
open Go.RowKit Go.Lib in
theorem Tryz.stringslite_Index (s sub : ByteArray) (m : Int) (w : World) (hs : s.size < 4294967281) (hm : w.cell? ⟨0, 0, none⟩ = some (.int .i64 m)) :
    Calls Tryz.prog 157 #[.string s, .string sub] w fun e w' => e = .returned (.int .i64 (Lib.index s.data.toList sub.data.toList)) ∧ w' = w := Any.stringslite_Index Tryz.lays219 s sub m w hs hm
def Tryz.lays143_ren : Go.Shelf.Ren := ⟨fun | 143 => 112 | 219 => 157 | 217 => 111 | 225 => 175 | 224 => 176 | 267 => 177 | 266 => 156 | 314 => 186 | n => n, fun | 9 => 9 | 3 => 3 | 4 => 4 | 5 => 5 | 46 => 110 | 146 => 182 | 51 => 140 | n => n, fun | 1 => 0 | n => n⟩
theorem Tryz.lays143 : Go.Proofs.Lays.n143 Tryz.prog Tryz.lays143_ren := {
  mixed := by kernel_rfl
  f143 := Tryz.func112.trans (congrArg some (by kernel_rfl))
  f217 := Tryz.func111.trans (congrArg some (by kernel_rfl))
  f219 := Tryz.func157.trans (congrArg some (by kernel_rfl))
  f224 := Tryz.func176.trans (congrArg some (by kernel_rfl))
  f225 := Tryz.func175.trans (congrArg some (by kernel_rfl))
  f266 := Tryz.func156.trans (congrArg some (by kernel_rfl))
  f267 := Tryz.func177.trans (congrArg some (by kernel_rfl))
  f314 := Tryz.func186.trans (congrArg some (by kernel_rfl))
  t3 := Tryz.underlying3
  a3 := Tryz.isAgg3
  z3 := Tryz.sizeOf3
  v3 := Tryz.zeroValue3
  t4 := Tryz.underlying4
  a4 := Tryz.isAgg4
  z4 := Tryz.sizeOf4
  v4 := Tryz.zeroValue4
  t5 := Tryz.underlying5
  a5 := Tryz.isAgg5
  z5 := Tryz.sizeOf5
  v5 := Tryz.zeroValue5
  t9 := Tryz.underlying9
  a9 := Tryz.isAgg9
  z9 := Tryz.sizeOf9
  v9 := Tryz.zeroValue9
  t46 := Tryz.underlying110
  a46 := Tryz.isAgg110
  z46 := Tryz.sizeOf110
  v46 := Tryz.zeroValue110
  t51 := Tryz.underlying140
  a51 := Tryz.isAgg140
  z51 := Tryz.sizeOf140
  v51 := Tryz.zeroValue140
  t146 := Tryz.underlying182
  a146 := Tryz.isAgg182
  z146 := Tryz.sizeOf182
  v146 := Tryz.zeroValue182
  g1 := by kernel_rfl }
open Go.RowKit Go.Lib in
theorem Tryz.strings_Index_one (s : ByteArray) (c : UInt8) (w : World) :
    Calls Tryz.prog 112 #[.string s, .string ⟨#[c]⟩] w fun e w' => e = .returned (.int .i64 (Lib.indexByte s.data.toList c)) ∧ w' = w := Any.strings_Index_one Tryz.lays143 s c w
open Go.RowKit Go.Lib in
theorem Tryz.strings_Index (s sub : ByteArray) (m : Int) (w : World) (hs : s.size < 4294967281) (hm : w.cell? ⟨0, 0, none⟩ = some (.int .i64 m)) :
    Calls Tryz.prog 112 #[.string s, .string sub] w fun e w' => e = .returned (.int .i64 (Lib.index s.data.toList sub.data.toList)) ∧ w' = w := Any.strings_Index Tryz.lays143 s sub m w hs hm
def Tryz.lays144_ren : Go.Shelf.Ren := ⟨fun | 144 => 73 | 143 => 112 | 219 => 157 | 217 => 111 | 225 => 175 | 224 => 176 | 267 => 177 | 266 => 156 | 314 => 186 | n => n, fun | 9 => 9 | 4 => 4 | 3 => 3 | 5 => 5 | 46 => 110 | 146 => 182 | 51 => 140 | n => n, fun | 1 => 0 | n => n⟩
theorem Tryz.lays144 : Go.Proofs.Lays.n144 Tryz.prog Tryz.lays144_ren := {
  mixed := by kernel_rfl
  f143 := Tryz.func112.trans (congrArg some (by kernel_rfl))
  f144 := Tryz.func73.trans (congrArg some (by kernel_rfl))
  f217 := Tryz.func111.trans (congrArg some (by kernel_rfl))
  f219 := Tryz.func157.trans (congrArg some (by kernel_rfl))
  f224 := Tryz.func176.trans (congrArg some (by kernel_rfl))
  f225 := Tryz.func175.trans (congrArg some (by kernel_rfl))
  f266 := Tryz.func156.trans (congrArg some (by kernel_rfl))
  f267 := Tryz.func177.trans (congrArg some (by kernel_rfl))
  f314 := Tryz.func186.trans (congrArg some (by kernel_rfl))
  t3 := Tryz.underlying3
  a3 := Tryz.isAgg3
  z3 := Tryz.sizeOf3
  v3 := Tryz.zeroValue3
  t4 := Tryz.underlying4
  a4 := Tryz.isAgg4
  z4 := Tryz.sizeOf4
  v4 := Tryz.zeroValue4
  t5 := Tryz.underlying5
  a5 := Tryz.isAgg5
  z5 := Tryz.sizeOf5
  v5 := Tryz.zeroValue5
  t9 := Tryz.underlying9
  a9 := Tryz.isAgg9
  z9 := Tryz.sizeOf9
  v9 := Tryz.zeroValue9
  t46 := Tryz.underlying110
  a46 := Tryz.isAgg110
  z46 := Tryz.sizeOf110
  v46 := Tryz.zeroValue110
  t51 := Tryz.underlying140
  a51 := Tryz.isAgg140
  z51 := Tryz.sizeOf140
  v51 := Tryz.zeroValue140
  t146 := Tryz.underlying182
  a146 := Tryz.isAgg182
  z146 := Tryz.sizeOf182
  v146 := Tryz.zeroValue182
  g1 := by kernel_rfl }
open Go.RowKit Go.Lib in
theorem Tryz.strings_Contains_one (s : ByteArray) (c : UInt8) (w : World) :
    Calls Tryz.prog 73 #[.string s, .string ⟨#[c]⟩] w fun e w' => e = .returned (.bool (decide (0 ≤ Lib.indexByte s.data.toList c))) ∧ w' = w := Any.strings_Contains_one Tryz.lays144 s c w
open Go.RowKit Go.Lib in
theorem Tryz.strings_Contains (s sub : ByteArray) (m : Int) (w : World) (hs : s.size < 4294967281) (hm : w.cell? ⟨0, 0, none⟩ = some (.int .i64 m)) :
    Calls Tryz.prog 73 #[.string s, .string sub] w fun e w' => e = .returned (.bool (Lib.contains s.data.toList sub.data.toList)) ∧ w' = w := Any.strings_Contains Tryz.lays144 s sub m w hs hm
def Tryz.laysM219_ren : Go.Shelf.Ren := ⟨fun | 219 => 157 | 217 => 111 | 225 => 175 | 224 => 176 | 267 => 177 | 266 => 156 | 314 => 186 | n => n, fun | 9 => 9 | 3 => 3 | 4 => 4 | 5 => 5 | 46 => 110 | 146 => 182 | 51 => 140 | n => n, fun | 1 => 0 | n => n⟩
theorem Tryz.laysM219 : Go.Proofs.LaysM.n219 Tryz.prog Tryz.laysM219_ren := {
  mixed := by kernel_rfl
  f217 := Tryz.func111.trans (congrArg some (by kernel_rfl))
  f219 := Tryz.func157.trans (congrArg some (by kernel_rfl))
  f224 := Tryz.func176.trans (congrArg some (by kernel_rfl))
  f225 := Tryz.func175.trans (congrArg some (by kernel_rfl))
  f266 := Tryz.func156.trans (congrArg some (by kernel_rfl))
  f267 := Tryz.func177.trans (congrArg some (by kernel_rfl))
  f314 := Tryz.func186.trans (congrArg some (by kernel_rfl))
  t3 := Tryz.underlying3
  a3 := Tryz.isAgg3
  z3 := Tryz.sizeOf3
  v3 := Tryz.zeroValue3
  t4 := Tryz.underlying4
  a4 := Tryz.isAgg4
  z4 := Tryz.sizeOf4
  v4 := Tryz.zeroValue4
  t5 := Tryz.underlying5
  a5 := Tryz.isAgg5
  z5 := Tryz.sizeOf5
  v5 := Tryz.zeroValue5
  t9 := Tryz.underlying9
  a9 := Tryz.isAgg9
  z9 := Tryz.sizeOf9
  v9 := Tryz.zeroValue9
  t46 := Tryz.underlying110
  a46 := Tryz.isAgg110
  z46 := Tryz.sizeOf110
  v46 := Tryz.zeroValue110
  t51 := Tryz.underlying140
  a51 := Tryz.isAgg140
  z51 := Tryz.sizeOf140
  v51 := Tryz.zeroValue140
  t146 := Tryz.underlying182
  a146 := Tryz.isAgg182
  z146 := Tryz.sizeOf182
  v146 := Tryz.zeroValue182
  g1 := by kernel_rfl
  i3 := by kernel_rfl
  i4 := by kernel_rfl
  i5 := by kernel_rfl
  i9 := by kernel_rfl
  i46 := by kernel_rfl
  i51 := by kernel_rfl
  i146 := by kernel_rfl
  m1 := by kernel_rfl
  s1_3 := fun w h => Go.Proofs.cell_of_shapedOpen_int (zero := #[.int .i64 0]) (t := 3) h (of_decide_eq_true (by kernel_rfl)) (by kernel_rfl) rfl (by kernel_rfl) (by kernel_rfl) Tryz.underlying3 }
open Go.RowKit Go.Lib in
theorem Tryz.stringslite_Index_shaped (s sub : ByteArray) (w : World) (h : w.ShapedOpen Tryz.prog) (hs : s.size < 4294967281) :
    Calls Tryz.prog 157 #[.string s, .string sub] w fun e w' => e = .returned (.int .i64 (Lib.index s.data.toList sub.data.toList)) ∧ w' = w := Any.stringslite_Index_shaped Tryz.laysM219 s sub w h hs
def Tryz.laysM143_ren : Go.Shelf.Ren := ⟨fun | 143 => 112 | 219 => 157 | 217 => 111 | 225 => 175 | 224 => 176 | 267 => 177 | 266 => 156 | 314 => 186 | n => n, fun | 9 => 9 | 3 => 3 | 4 => 4 | 5 => 5 | 46 => 110 | 146 => 182 | 51 => 140 | n => n, fun | 1 => 0 | n => n⟩
theorem Tryz.laysM143 : Go.Proofs.LaysM.n143 Tryz.prog Tryz.laysM143_ren := {
  mixed := by kernel_rfl
  f143 := Tryz.func112.trans (congrArg some (by kernel_rfl))
  f217 := Tryz.func111.trans (congrArg some (by kernel_rfl))
  f219 := Tryz.func157.trans (congrArg some (by kernel_rfl))
  f224 := Tryz.func176.trans (congrArg some (by kernel_rfl))
  f225 := Tryz.func175.trans (congrArg some (by kernel_rfl))
  f266 := Tryz.func156.trans (congrArg some (by kernel_rfl))
  f267 := Tryz.func177.trans (congrArg some (by kernel_rfl))
  f314 := Tryz.func186.trans (congrArg some (by kernel_rfl))
  t3 := Tryz.underlying3
  a3 := Tryz.isAgg3
  z3 := Tryz.sizeOf3
  v3 := Tryz.zeroValue3
  t4 := Tryz.underlying4
  a4 := Tryz.isAgg4
  z4 := Tryz.sizeOf4
  v4 := Tryz.zeroValue4
  t5 := Tryz.underlying5
  a5 := Tryz.isAgg5
  z5 := Tryz.sizeOf5
  v5 := Tryz.zeroValue5
  t9 := Tryz.underlying9
  a9 := Tryz.isAgg9
  z9 := Tryz.sizeOf9
  v9 := Tryz.zeroValue9
  t46 := Tryz.underlying110
  a46 := Tryz.isAgg110
  z46 := Tryz.sizeOf110
  v46 := Tryz.zeroValue110
  t51 := Tryz.underlying140
  a51 := Tryz.isAgg140
  z51 := Tryz.sizeOf140
  v51 := Tryz.zeroValue140
  t146 := Tryz.underlying182
  a146 := Tryz.isAgg182
  z146 := Tryz.sizeOf182
  v146 := Tryz.zeroValue182
  g1 := by kernel_rfl
  i3 := by kernel_rfl
  i4 := by kernel_rfl
  i5 := by kernel_rfl
  i9 := by kernel_rfl
  i46 := by kernel_rfl
  i51 := by kernel_rfl
  i146 := by kernel_rfl
  m1 := by kernel_rfl
  s1_3 := fun w h => Go.Proofs.cell_of_shapedOpen_int (zero := #[.int .i64 0]) (t := 3) h (of_decide_eq_true (by kernel_rfl)) (by kernel_rfl) rfl (by kernel_rfl) (by kernel_rfl) Tryz.underlying3 }
open Go.RowKit Go.Lib in
theorem Tryz.strings_Index_shaped (s sub : ByteArray) (w : World) (h : w.ShapedOpen Tryz.prog) (hs : s.size < 4294967281) :
    Calls Tryz.prog 112 #[.string s, .string sub] w fun e w' => e = .returned (.int .i64 (Lib.index s.data.toList sub.data.toList)) ∧ w' = w := Any.strings_Index_shaped Tryz.laysM143 s sub w h hs
def Tryz.laysM144_ren : Go.Shelf.Ren := ⟨fun | 144 => 73 | 143 => 112 | 219 => 157 | 217 => 111 | 225 => 175 | 224 => 176 | 267 => 177 | 266 => 156 | 314 => 186 | n => n, fun | 9 => 9 | 4 => 4 | 3 => 3 | 5 => 5 | 46 => 110 | 146 => 182 | 51 => 140 | n => n, fun | 1 => 0 | n => n⟩
theorem Tryz.laysM144 : Go.Proofs.LaysM.n144 Tryz.prog Tryz.laysM144_ren := {
  mixed := by kernel_rfl
  f143 := Tryz.func112.trans (congrArg some (by kernel_rfl))
  f144 := Tryz.func73.trans (congrArg some (by kernel_rfl))
  f217 := Tryz.func111.trans (congrArg some (by kernel_rfl))
  f219 := Tryz.func157.trans (congrArg some (by kernel_rfl))
  f224 := Tryz.func176.trans (congrArg some (by kernel_rfl))
  f225 := Tryz.func175.trans (congrArg some (by kernel_rfl))
  f266 := Tryz.func156.trans (congrArg some (by kernel_rfl))
  f267 := Tryz.func177.trans (congrArg some (by kernel_rfl))
  f314 := Tryz.func186.trans (congrArg some (by kernel_rfl))
  t3 := Tryz.underlying3
  a3 := Tryz.isAgg3
  z3 := Tryz.sizeOf3
  v3 := Tryz.zeroValue3
  t4 := Tryz.underlying4
  a4 := Tryz.isAgg4
  z4 := Tryz.sizeOf4
  v4 := Tryz.zeroValue4
  t5 := Tryz.underlying5
  a5 := Tryz.isAgg5
  z5 := Tryz.sizeOf5
  v5 := Tryz.zeroValue5
  t9 := Tryz.underlying9
  a9 := Tryz.isAgg9
  z9 := Tryz.sizeOf9
  v9 := Tryz.zeroValue9
  t46 := Tryz.underlying110
  a46 := Tryz.isAgg110
  z46 := Tryz.sizeOf110
  v46 := Tryz.zeroValue110
  t51 := Tryz.underlying140
  a51 := Tryz.isAgg140
  z51 := Tryz.sizeOf140
  v51 := Tryz.zeroValue140
  t146 := Tryz.underlying182
  a146 := Tryz.isAgg182
  z146 := Tryz.sizeOf182
  v146 := Tryz.zeroValue182
  g1 := by kernel_rfl
  i3 := by kernel_rfl
  i4 := by kernel_rfl
  i5 := by kernel_rfl
  i9 := by kernel_rfl
  i46 := by kernel_rfl
  i51 := by kernel_rfl
  i146 := by kernel_rfl
  m1 := by kernel_rfl
  s1_3 := fun w h => Go.Proofs.cell_of_shapedOpen_int (zero := #[.int .i64 0]) (t := 3) h (of_decide_eq_true (by kernel_rfl)) (by kernel_rfl) rfl (by kernel_rfl) (by kernel_rfl) Tryz.underlying3 }
open Go.RowKit Go.Lib in
theorem Tryz.strings_Contains_shaped (s sub : ByteArray) (w : World) (h : w.ShapedOpen Tryz.prog) (hs : s.size < 4294967281) :
    Calls Tryz.prog 73 #[.string s, .string sub] w fun e w' => e = .returned (.bool (Lib.contains s.data.toList sub.data.toList)) ∧ w' = w := Any.strings_Contains_shaped Tryz.laysM144 s sub w h hs
end Go.Proofs

namespace Go.Proofs.YtkomdppjelnpdaaGreatDoor
open Go.AE Go.RowKit
set_option maxRecDepth 100000

theorem w64 {n : Int} (h : -9223372036854775808 ≤ n ∧ n ≤ 9223372036854775807) : IntKind.i64.wrap n = n := by rw [IntKind.wrap_i64]; omega

/-! ### contracts laid over functions -/
abbrev AC := List AV → List ABlk → (AO → List ABlk → Prop) → Prop
def gput (f : FuncId) (c : AC) (G : AG) : AG := fun g => match Nat.beq g f with
  | true => some c
  | false => G g
def g0 : AG := fun _ => none
def COk (f : FuncId) (c : AC) : Prop := ∀ args K k, c args K k → ACalls Tryz.prog f args K k
theorem g0_ok : GOk Tryz.prog g0 := fun f g h => by simp [g0] at h
theorem gput_ok {f : FuncId} {c : AC} {G : AG} (hc : COk f c) (hG : GOk Tryz.prog G) : GOk Tryz.prog (gput f c G) := fun h g hg => by
  unfold gput at hg
  split at hg
  · rename_i e
    have := Nat.eq_of_beq_eq_true e
    subst this
    injection hg with hg
    subst hg
    exact hc
  · exact hG h g hg

theorem call_ok {G : AG} (hG : GOk Tryz.prog G) (n : Nat) (f : FuncId) (args : List AV) (K : List ABlk) (k : AO → List ABlk → Prop) (h : acall1 T0 G n f args K k) : ACalls Tryz.prog f args K k :=
  acall1_ok tabOk (Checked.mixed Tryz.checked) hG n f args K k h

/-- a contract in the kit's words, which turns nothing that was there -/
theorem ACalls.lib {f : FuncId} {args : List AV} {K : List ABlk} {k : AO → List ABlk → Prop} (he : Ent Tryz.prog f)
    (h : ∀ w m Args, St w m (hp K) → VL w m args Args → Calls Tryz.prog f Args w fun e w' => ∃ v u, e = .returned u ∧ Below w.heap.size w w' ∧ V w' m v u ∧ k (.ret v) K) : ACalls Tryz.prog f args K k :=
  ⟨he, fun w m Args hS hV => (h w m Args hS hV).mono fun e w' ⟨v, u, h1, h2, h3, h4⟩ => by
    subst h1
    exact ⟨m, v, K, Tr.below hS.Ilt h2, hS.below h2, h3, h4⟩⟩
theorem ent {f : FuncId} {fn : Func} (h : Tf.get f = some fn) (hb : fn.body.isSome = true) : Ent Tryz.prog f := by
  obtain ⟨h1, h2⟩ := tabOk.f f fn h
  exact ⟨fn, h1, h2, hb⟩

theorem vl1 {w : World} {m : Mp} {a : AV} {A : Array Value} (h : VL w m [a] A) : ∃ u, A = #[u] ∧ V w m a u := by
  obtain ⟨h1, h2⟩ := h
  have hs : A.size = 1 := h1.symm
  refine ⟨A[0], ?_, h2 0 (by simp) (by omega)⟩
  apply Array.ext
  · simp [hs]
  · intro i hi hi'
    have : i = 0 := by simp at hi'; omega
    subst this; rfl
theorem vl2 {w : World} {m : Mp} {a b : AV} {A : Array Value} (h : VL w m [a, b] A) : ∃ u v, A = #[u, v] ∧ V w m a u ∧ V w m b v := by
  obtain ⟨h1, h2⟩ := h
  have hs : A.size = 2 := h1.symm
  refine ⟨A[0], A[1], ?_, h2 0 (by simp) (by omega), h2 1 (by simp) (by omega)⟩
  apply Array.ext
  · simp [hs]
  · intro i hi hi'
    have : i = 0 ∨ i = 1 := by simp at hi'; omega
    rcases this with rfl | rfl <;> rfl
theorem v_str {w : World} {m : Mp} {l : List UInt8} {u : Value} (h : V w m (.p (.str l)) u) : ∃ s : ByteArray, u = .string s ∧ s.data.toList = l := by
  cases h with
  | p _ _ h => cases h with
    | str s l hl => exact ⟨s, rfl, hl⟩
theorem v_int {w : World} {m : Mp} {q : IntKind} {n : Int} {u : Value} (h : V w m (.p (.int q n)) u) : u = .int q n := by
  cases h with
  | p _ _ h => cases h; rfl
theorem size_of {s : ByteArray} {l : List UInt8} (h : s.data.toList = l) : s.size = l.length := by
  subst h; exact Array.length_toList.symm
theorem below_same (w : World) : Below w.heap.size w w := Below.refl _ _

def cIndexByte : AC := fun args K k => ∃ l c, args = [.p (.str l), .p (.int .u8 c)] ∧ k (.ret (.p (.int .i64 (Lib.indexByte l c.toNat.toUInt8)))) K
theorem indexByte_ok : COk 72 cIndexByte := by
  rintro args K k ⟨l, c, rfl, hk⟩
  refine ACalls.lib (ent rfl rfl) fun w m Args hS hV => ?_
  obtain ⟨u, v, rfl, h1, h2⟩ := vl2 hV
  obtain ⟨s, rfl, rfl⟩ := v_str h1
  obtain rfl := v_int h2
  exact (Tryz.strings_IndexByte s c w).mono fun e w' ⟨h3, h4⟩ => ⟨_, _, h3, by rw [h4]; exact below_same w, .p _ _ (.int ..), hk⟩

def cContains : AC := fun args K k => ∃ a b, args = [.p (.str a), .p (.str b)] ∧ a.length < 4294967281 ∧ k (.ret (.p (.bool (Lib.contains a b)))) K
theorem contains_ok : COk 73 cContains := by
  rintro args K k ⟨a, b, rfl, hl, hk⟩
  refine ACalls.lib (ent rfl rfl) fun w m Args hS hV => ?_
  obtain ⟨u, v, rfl, h1, h2⟩ := vl2 hV
  obtain ⟨s, rfl, rfl⟩ := v_str h1
  obtain ⟨t, rfl, rfl⟩ := v_str h2
  obtain ⟨n, hn⟩ := hS.gl.facts.maxLen
  exact (Tryz.strings_Contains s t n w (by rw [size_of rfl]; exact hl) hn).mono fun e w' ⟨h3, h4⟩ => ⟨_, _, h3, by rw [h4]; exact below_same w, .p _ _ (.bool ..), hk⟩

/-- the number, and whether there was none -/
def atoiV : Lib.NumEnd Int → List UInt8 → AV
  | .ok v, _ => .tup [.p (.int .i64 v), .p .nili]
  | .range, l => .tup [.p (.int .i64 (Lib.atoiSat l)), .iface 187 .junk]
  | _, _ => .tup [.p (.int .i64 0), .iface 187 .junk]
def cAtoi : AC := fun args K k => ∃ l, args = [.p (.str l)] ∧ l.length < 1000000 ∧ k (.ret (atoiV (Lib.atoiAll l) l)) K
theorem tup2 {w : World} {m : Mp} {a b : AV} {u v : Value} (h1 : V w m a u) (h2 : V w m b v) : V w m (.tup [a, b]) (.tuple #[u, v]) :=
  .tup _ _ rfl fun j hj hj' => by
    rcases j with _ | _ | j
    · exact h1
    · exact h2
    · simp at hj; omega
theorem atoi_ok : COk 168 cAtoi := by
  rintro args K k ⟨l, rfl, hl, hk⟩
  refine ACalls.lib (ent rfl rfl) fun w m Args hS hV => ?_
  obtain ⟨u, rfl, h1⟩ := vl1 hV
  obtain ⟨s, rfl, rfl⟩ := v_str h1
  have hs := size_of (s := s) rfl
  cases ha : Lib.atoiAll s.data.toList with
  | ok v =>
    rw [ha] at hk
    refine (Tryz.strconv_Atoi_ok s (by omega) v ha w).mono fun e w' ⟨h3, h4⟩ => ⟨_, _, h3, ?_, tup2 (.p _ _ (.int ..)) (.p _ _ .nili), hk⟩
    rcases h4 with rfl | ⟨t, rfl⟩
    · exact below_same _
    · exact bytesWorld_below _ _ _
  | range =>
    rw [ha] at hk
    obtain ⟨ev, h5, h6⟩ := hS.gl.facts.errRange
    exact (Tryz.strconv_Atoi_range s (by omega) ha ev w h5 h6).mono fun e w' ⟨N, h3, _, _, h4⟩ => ⟨_, _, h3, h4, tup2 (.p _ _ (.int ..)) (.iface _ _ _ (.junk _)), hk⟩
  | _ =>
    rw [ha] at hk
    obtain ⟨ev, h5, h6⟩ := hS.gl.facts.errSyntax
    exact (Tryz.strconv_Atoi_syntax s (by omega) ⟨fun v e => (by rw [ha] at e; cases e), fun e => (by rw [ha] at e; cases e)⟩ ev w h5 h6).mono fun e w' ⟨N, h3, _, _, h4⟩ => ⟨_, _, h3, h4, tup2 (.p _ _ (.int ..)) (.iface _ _ _ (.junk _)), hk⟩

theorem grow_below (w : World) (n : Nat) (os : Array Obj) : Below w.heap.size w (Sort.grow (w.drewN n) os) :=
  ⟨rfl, rfl, rfl, by simp [Sort.grow], fun j hj => by simp [Sort.grow, Array.getElem?_append, hj]⟩
def cItoa : AC := fun args K k => ∃ n, args = [.p (.int .i64 n)] ∧ -9223372036854775808 ≤ n ∧ n ≤ 9223372036854775807 ∧ k (.ret (.p (.str (Lib.itoa n)))) K
theorem itoa_ok : COk 169 cItoa := by
  rintro args K k ⟨n, rfl, h0, h1, hk⟩
  refine ACalls.lib (ent rfl rfl) fun w m Args hS hV => ?_
  obtain ⟨u, rfl, h2⟩ := vl1 hV
  obtain rfl := v_int h2
  exact (Tryz.strconv_Itoa n h0 h1 w hS.gl.facts.pow10).mono fun e w' ⟨h3, j, os, h4⟩ => ⟨_, _, h3, by rw [h4]; exact grow_below w j os, .p _ _ (.str _ _ rfl), hk⟩
end Go.Proofs.YtkomdppjelnpdaaGreatDoor

namespace Go.Proofs.YtkomdppjelnpdaaGreatDoor
open Go.AE Go.Ru
set_option maxRecDepth 100000
set_option pp.maxSteps 2000

def gL : AG := gput 72 cIndexByte (gput 73 cContains (gput 168 cAtoi (gput 169 cItoa g0)))
theorem gL_ok : GOk Tryz.prog gL := gput_ok indexByte_ok (gput_ok contains_ok (gput_ok atoi_ok (gput_ok itoa_ok g0_ok)))

/-- a call that asks nothing of memory, whatever lies there -/
theorem frame0P {G : AG} (hG : GOk Tryz.prog G) (n : Nat) {f : FuncId} {args : List AV} {X : List ABlk} {k : AO → List ABlk → Prop} (hcl : AV.cls 0 args = true)
    (h : ∀ Q : AO → List ABlk → Prop, (∀ v K', v.cl 0 = true → k (.ret v) X → Q (.ret v) K') → acall1 T0 G n f args [] Q) : ACalls Tryz.prog f args X k := by
  refine (ACalls.frame (K0 := []) (X := X) (k := fun ao K1 => k ao (K1 ++ X)) hcl (fun r h => by simp at h) (call_ok hG n f args [] _ (h _ ?_))).mono fun ao K ⟨K1, h1, h2⟩ => by subst h1; exact h2
  intro v K' h1 h2
  refine ⟨h1, by simp, fun r hr => by simp at hr, ?_⟩
  show k (.ret v) (takeN K' 0 ++ X)
  rw [takeN_zero]; exact h2

def cKept : AC := fun args K k => ∃ l, args = [.p (.str l)] ∧ l.length < 1000000 ∧ k (.ret (.p (.bool (keptP l)))) K
theorem kept_ok : COk 110 cKept := by
  rintro args K k ⟨l, rfl, hl, hk⟩
  refine frame0P gL_ok 19 rfl fun Q hr => ?_
  conv => whnf
  refine two_intro (fun h => ?_) (fun h => ?_)
  · have h : (!(l == [])) = true := h
    conv => whnf
    refine ⟨_, _, rfl, ?_⟩
    conv => whnf
    refine two_intro (fun h2 => ?_) (fun h2 => ?_)
    · have h2 : decide (Lib.indexByte l 32 < 0) = true := h2
      conv => whnf
      refine ⟨?_, ?_⟩
      · show 1 + l.length ≤ _
        omega
      conv => whnf
      refine ⟨?_, ?_⟩
      · show ([32] ++ l).length + 1 ≤ _
        simp only [List.length_append, List.length_cons, List.length_nil]; omega
      conv => whnf
      refine ⟨_, _, rfl, by decide, ?_⟩
      conv => whnf
      simp only [keptP, h, h2, Bool.true_and] at hk
      exact hr _ _ rfl hk
    · have h2 : decide (Lib.indexByte l 32 < 0) = false := h2
      conv => whnf
      simp only [keptP, h, h2, Bool.false_and, Bool.and_false] at hk
      exact hr _ _ rfl hk
  · have h : (!(l == [])) = false := h
    conv => whnf
    simp only [keptP, h, Bool.false_and] at hk
    exact hr _ _ rfl hk

theorem u8n (c : UInt8) : ((c.toNat : Int)).toNat.toUInt8 = c := by simp
theorem u8b (l : List UInt8) (i : Nat) : (byteAt l i).toNat.toUInt8 = l.getD i 0 := u8n _

/-- has a text nothing but some bytes? -/
def cOnly : AC := fun args K k => ∃ l m, args = [.p (.str l), .p (.str m)] ∧ l.length < 1000000 ∧ k (.ret (.p (.bool (l.all (inB m))))) K
theorem only_ok : COk 109 cOnly := by
  rintro args K k ⟨l, m, rfl, hl, hk⟩
  refine frame0P gL_ok 19 rfl fun Q hr => ?_
  conv => whnf
  refine ⟨by omega, ?_⟩
  conv => whnf
  refine loop_by (ι := Nat) (fun i => ⟨[(8, .p (.int .i64 i)), (7, .p (.int .i64 l.length)), (0, .p (.sl 1 l.length (byteF l))), (1, .fn 155 [] [.ptr 0 0 1 0 0])], [.box 9 [.p (.str m)]]⟩)
    (fun i => i ≤ l.length ∧ (l.take i).all (inB m) = true) (fun i => l.length - i) 0 ⟨AV.le_refl _, AV.le_refl _, AV.le_refl _, AV.le_refl _, trivial⟩ (lesK.refl _) ⟨by omega, rfl⟩ ?_
  intro Y hle i ⟨hi, ha⟩ ih
  conv => whnf
  refine two_intro (fun h => ?_) (fun h => ?_)
  · have h : i < l.length := by simpa using h
    conv => whnf
    refine ⟨⟨by omega, by omega, rfl⟩, ?_⟩
    conv => whnf
    refine ⟨_, _, rfl, ?_⟩
    have hi2 : ((i : Int)).toNat = i := by omega
    have hc : ((l.getD (Int.toNat i) 0).toNat : Int).toNat.toUInt8 = l[i] := by
      rw [u8n, hi2, List.getD_eq_getElem?_getD, List.getElem?_eq_getElem h]; rfl
    conv => whnf
    have hb : decide (Lib.indexByte m (((l.getD (Int.toNat i) 0).toNat : Int).toNat.toUInt8) < 0) = !inB m l[i] := by
      rw [hc]; simp only [inB]
      by_cases hx : Lib.indexByte m l[i] < 0
      · simp [hx] <;> omega
      · simp [hx] <;> omega
    refine two_intro (fun h2 => ?_) (fun h2 => ?_)
    · rw [hb] at h2
      have h2 : inB m l[i] = false := by simpa using h2
      have he : l.all (inB m) = false := by
        rw [List.all_eq_false]; exact ⟨l[i], by simp, by simp [h2]⟩
      conv => whnf
      rw [he] at hk
      have : (decide ((i : Int) ≥ 0)) = true := by simp
      rw [this]
      exact hr _ _ rfl hk
    · rw [hb] at h2
      have h2 : inB m l[i] = true := by simpa using h2
      conv => whnf
      refine hle _ _ (Le.env ?_ (lesK.refl _)) (ih (i + 1) (by omega) ⟨by omega, ?_⟩)
      · refine ⟨AV.le_of_eq ?_, AV.le_refl _, AV.le_refl _, AV.le_refl _, trivial⟩
        show AV.p (.int .i64 (IntKind.i64.wrap ((i : Int) + 1))) = .p (.int .i64 ((i + 1 : Nat) : Int))
        rw [w64 (by omega)]; rfl
      · rw [List.take_succ_eq_append_getElem h, List.all_append, ha]; simp [h2]
  · have h : ¬ i < l.length := by simpa using h
    obtain rfl : i = l.length := by omega
    rw [List.take_length] at ha
    conv => whnf
    rw [ha] at hk
    exact hr _ _ rfl hk

def cIdentT : AC := fun args K k => ∃ l, args = [.p (.str l)] ∧ l.length < 1000000 ∧ k (.ret (.p (.bool (identP l)))) K
def gK : AG := gput 110 cKept (gput 109 cOnly gL)
theorem gK_ok : GOk Tryz.prog gK := gput_ok kept_ok (gput_ok only_ok gL_ok)
theorem identT_ok : COk 71 cIdentT := by
  rintro args K k ⟨l, rfl, hl, hk⟩
  refine frame0P gK_ok 19 rfl fun Q hr => ?_
  conv => whnf
  refine two_intro (fun h => ?_) (fun h => ?_)
  · have h : (!(l == [])) = true := h
    conv => whnf
    refine two_intro (fun h2 => ?_) (fun h2 => ?_)
    · have h2 : decide (l.length ≤ 20) = true := decide_eq_true (by have := of_decide_eq_true h2; omega)
      conv => whnf
      refine ⟨_, _, rfl, hl, ?_⟩
      conv => whnf
      refine two_intro (fun h3 => ?_) (fun h3 => ?_)
      · have h3 : l.all (inB partsT) = true := h3
        have hl0 : 0 < l.length := by
          cases l with
          | nil => simp at h
          | cons a r => simp
        conv => whnf
        refine ⟨⟨by omega, by omega⟩, ?_⟩
        conv => whnf
        refine ⟨_, _, rfl, ?_⟩
        conv => whnf
        refine two_intro (fun h4 => ?_) (fun h4 => ?_)
        · rw [u8b] at h4
          have h4 : decide (Lib.indexByte digitsT (l.getD 0 0) < 0) = true := h4
          conv => whnf
          refine ⟨_, rfl, hl, ?_⟩
          conv => whnf
          simp only [identP, h, h2, h3, h4, Bool.true_and] at hk
          exact hr _ _ rfl hk
        · rw [u8b] at h4
          have h4 : decide (Lib.indexByte digitsT (l.getD 0 0) < 0) = false := h4
          conv => whnf
          simp only [identP, h, h2, h3, h4, Bool.true_and, Bool.false_and] at hk
          exact hr _ _ rfl hk
      · have h3 : l.all (inB partsT) = false := h3
        conv => whnf
        simp only [identP, h, h2, h3, Bool.true_and, Bool.false_and] at hk
        exact hr _ _ rfl hk
    · have h2 : decide (l.length ≤ 20) = false := decide_eq_false (by have := of_decide_eq_false h2; omega)
      conv => whnf
      simp only [identP, h, h2, Bool.true_and, Bool.false_and] at hk
      exact hr _ _ rfl hk
  · have h : (!(l == [])) = false := h
    conv => whnf
    simp only [identP, h, Bool.false_and] at hk
    exact hr _ _ rfl hk

def tkV (k n a : Int) (l : Bs) : AV := .agg [.p (.int .i64 k), .p (.int .i64 n), .p (.int .i64 a), .p (.str l)]
def wordV (l : Bs) (a : Int) : Option (TK × Int) → AV
  | some (k, v) => .tup [tkV k.code v a l, .p (.bool true)]
  | none => .tup [tkV 0 0 a l, .p (.bool false)]
def cWordT : AC := fun args K k => ∃ l a, args = [.p (.str l), .p (.int .i64 a)] ∧ l.length < 1000000 ∧ k (.ret (wordV l a (wordP l))) K
def gI : AG := gput 71 cIdentT gK
theorem gI_ok : GOk Tryz.prog gI := gput_ok identT_ok gK_ok
theorem wordT_ok : COk 137 cWordT := by
  rintro args K k ⟨l, a, rfl, hl, hk⟩
  refine frame0P gI_ok 19 rfl fun Q hr => ?_
  conv => whnf
  refine ⟨_, rfl, hl, ?_⟩
  have kw : keptP l = true → k (.ret (.tup [tkV 4 0 a l, .p (.bool true)])) K := fun h => by simp only [wordP, h] at hk; exact hk
  have ki : keptP l = false → identP l = true → k (.ret (.tup [tkV 1 0 a l, .p (.bool true)])) K := fun h h2 => by simp only [wordP, h, h2] at hk; exact hk
  cases ha : Lib.atoiAll l with
  | ok v =>
    obtain ⟨hv0, hv1⟩ := Lib.atoiAll_bounds ha
    conv => whnf
    refine ⟨_, rfl, hl, ?_⟩
    conv => whnf
    refine two_intro (fun h => ?_) (fun h => ?_)
    · have hk := kw h
      conv => whnf
      repeat ((refine And.intro ?_ ?_); (focus ((conv => whnf); done)); (conv => whnf))
      exact hr _ _ rfl hk
    · have h : keptP l = false := h
      conv => whnf
      refine ⟨_, rfl, hl, ?_⟩
      conv => whnf
      refine two_intro (fun h2 => ?_) (fun h2 => ?_)
      · have hk := ki h h2
        conv => whnf
        repeat ((refine And.intro ?_ ?_); (focus ((conv => whnf); done)); (conv => whnf))
        exact hr _ _ rfl hk
      · have h2 : identP l = false := h2
        conv => whnf
        refine ⟨_, rfl, by omega, by omega, ?_⟩
        conv => whnf
        refine two_intro (fun h3 => ?_) (fun h3 => ?_)
        · have h3 : Lib.itoa v = l := by simpa using h3
          simp only [wordP, h, h2, numP, ha, if_pos h3] at hk
          conv => whnf
          repeat ((refine And.intro ?_ ?_); (focus ((conv => whnf); done)); (conv => whnf))
          exact hr _ _ rfl hk
        · have h3 : ¬ Lib.itoa v = l := by simpa using h3
          simp only [wordP, h, h2, numP, ha, if_neg h3] at hk
          conv => whnf
          repeat ((refine And.intro ?_ ?_); (focus ((conv => whnf); done)); (conv => whnf))
          exact hr _ _ rfl hk
  | range =>
    conv => whnf
    refine ⟨_, rfl, hl, ?_⟩
    conv => whnf
    refine two_intro (fun h => ?_) (fun h => ?_)
    · have hk := kw h
      conv => whnf
      repeat ((refine And.intro ?_ ?_); (focus ((conv => whnf); done)); (conv => whnf))
      exact hr _ _ rfl hk
    · have h : keptP l = false := h
      conv => whnf
      refine ⟨_, rfl, hl, ?_⟩
      conv => whnf
      refine two_intro (fun h2 => ?_) (fun h2 => ?_)
      · have hk := ki h h2
        conv => whnf
        repeat ((refine And.intro ?_ ?_); (focus ((conv => whnf); done)); (conv => whnf))
        exact hr _ _ rfl hk
      · have h2 : identP l = false := h2
        simp only [wordP, h, h2, numP, ha] at hk
        conv => whnf
        repeat ((refine And.intro ?_ ?_); (focus ((conv => whnf); done)); (conv => whnf))
        exact hr _ _ rfl hk
  | _ =>
    conv => whnf
    refine ⟨_, rfl, hl, ?_⟩
    conv => whnf
    refine two_intro (fun h => ?_) (fun h => ?_)
    · have hk := kw h
      conv => whnf
      repeat ((refine And.intro ?_ ?_); (focus ((conv => whnf); done)); (conv => whnf))
      exact hr _ _ rfl hk
    · have h : keptP l = false := h
      conv => whnf
      refine ⟨_, rfl, hl, ?_⟩
      conv => whnf
      refine two_intro (fun h2 => ?_) (fun h2 => ?_)
      · have hk := ki h h2
        conv => whnf
        repeat ((refine And.intro ?_ ?_); (focus ((conv => whnf); done)); (conv => whnf))
        exact hr _ _ rfl hk
      · have h2 : identP l = false := h2
        simp only [wordP, h, h2, numP, ha] at hk
        conv => whnf
        repeat ((refine And.intro ?_ ?_); (focus ((conv => whnf); done)); (conv => whnf))
        exact hr _ _ rfl hk

theorem bne_byte (l : List UInt8) (i : Nat) : (byteAt l i != 32) = !(l.getD i 0 == 32) := by
  show (!(((l.getD i 0).toNat : Int) == 32)) = _
  congr 1
  rw [Bool.eq_iff_iff]
  simp only [beq_iff_eq]
  constructor
  · intro h
    exact UInt8.toNat_inj.1 (by show (l.getD i 0).toNat = 32; omega)
  · intro h; rw [h]; rfl
def cSignT : AC := fun args K k => ∃ l, args = [.p (.str l)] ∧ 0 < l.length ∧ l.length < 1000000 ∧ k (.ret (.p (.int .i64 (signP l : Nat)))) K
theorem signT_ok : COk 138 cSignT := by
  rintro args K k ⟨l, rfl, hl0, hl, hk⟩
  refine frame0P gL_ok 19 rfl fun Q hr => ?_
  conv => whnf
  have hd1 : decide ((l.length : Int) > 1) = decide (l.length > 1) := by
    by_cases h : l.length > 1
    · rw [decide_eq_true h, decide_eq_true (by omega)]
    · rw [decide_eq_false h, decide_eq_false (by omega)]
  refine two_intro (fun h => ?_) (fun h => ?_)
  · rw [hd1] at h
    have h1 := of_decide_eq_true h
    conv => whnf
    refine ⟨⟨by omega, by omega⟩, ?_⟩
    conv => whnf
    refine two_intro (fun h2 => ?_) (fun h2 => ?_)
    · have h2 : (!(l.getD 0 0 == 32)) = true := by rw [← bne_byte]; exact h2
      conv => whnf
      refine ⟨⟨by omega, by omega⟩, ?_⟩
      conv => whnf
      refine two_intro (fun h3 => ?_) (fun h3 => ?_)
      · have h3 : (!(l.getD 1 0 == 32)) = true := by rw [← bne_byte]; exact h3
        conv => whnf
        refine ⟨⟨by decide, by decide, by omega⟩, ?_⟩
        conv => whnf
        refine ⟨?_, ?_⟩
        · show 1 + (l.take 2).length ≤ _
          simp only [List.length_take]; omega
        conv => whnf
        refine ⟨?_, ?_⟩
        · show ([32] ++ l.take 2).length + 1 ≤ _
          simp only [List.length_append, List.length_cons, List.length_nil, List.length_take]; omega
        conv => whnf
        refine ⟨_, _, rfl, by decide, ?_⟩
        conv => whnf
        refine two_intro (fun h4 => ?_) (fun h4 => ?_)
        · have h4 : Lib.contains pairsT ([32] ++ l.take 2 ++ [32]) = true := h4
          have hp : pairP l = true := by simp only [pairP, h, h2, h3, h4, Bool.and_true]
          simp only [signP, if_pos hp] at hk
          conv => whnf
          exact hr _ _ rfl hk
        · have h4 : Lib.contains pairsT ([32] ++ l.take 2 ++ [32]) = false := h4
          have hp : ¬ pairP l = true := by simp only [pairP, h, h2, h3, h4, Bool.and_false]; simp
          simp only [signP, if_neg hp] at hk
          conv => whnf
          refine ⟨⟨by omega, by omega⟩, ?_⟩
          conv => whnf
          refine ⟨_, _, rfl, ?_⟩
          conv => whnf
          have hb : decide (Lib.indexByte singleT ((byteAt l (Int.toNat 0)).toNat.toUInt8) ≥ 0) = inB singleT (l.getD 0 0) := by rw [u8b]; rfl
          refine two_intro (fun h5 => ?_) (fun h5 => ?_)
          · have h5 : inB singleT (l.getD 0 0) = true := by rw [← hb]; exact h5
            conv => whnf
            rw [if_pos h5] at hk
            exact hr _ _ rfl hk
          · have h5 : inB singleT (l.getD 0 0) = false := by rw [← hb]; exact h5
            conv => whnf
            rw [if_neg (by rw [h5]; exact Bool.false_ne_true)] at hk
            exact hr _ _ rfl hk
      · have h3 : (!(l.getD 1 0 == 32)) = false := by rw [← bne_byte]; exact h3
        have hp : ¬ pairP l = true := by simp only [pairP, h, h2, h3, Bool.and_false, Bool.false_and]; simp
        simp only [signP, if_neg hp] at hk
        conv => whnf
        refine ⟨⟨by omega, by omega⟩, ?_⟩
        conv => whnf
        refine ⟨_, _, rfl, ?_⟩
        conv => whnf
        have hb : decide (Lib.indexByte singleT ((byteAt l (Int.toNat 0)).toNat.toUInt8) ≥ 0) = inB singleT (l.getD 0 0) := by rw [u8b]; rfl
        refine two_intro (fun h5 => ?_) (fun h5 => ?_)
        · have h5 : inB singleT (l.getD 0 0) = true := by rw [← hb]; exact h5
          conv => whnf
          rw [if_pos h5] at hk
          exact hr _ _ rfl hk
        · have h5 : inB singleT (l.getD 0 0) = false := by rw [← hb]; exact h5
          conv => whnf
          rw [if_neg (by rw [h5]; exact Bool.false_ne_true)] at hk
          exact hr _ _ rfl hk
    · have h2 : (!(l.getD 0 0 == 32)) = false := by rw [← bne_byte]; exact h2
      have hp : ¬ pairP l = true := by simp only [pairP, h, h2, Bool.and_false, Bool.false_and]; simp
      simp only [signP, if_neg hp] at hk
      conv => whnf
      refine ⟨⟨by omega, by omega⟩, ?_⟩
      conv => whnf
      refine ⟨_, _, rfl, ?_⟩
      conv => whnf
      have hb : decide (Lib.indexByte singleT ((byteAt l (Int.toNat 0)).toNat.toUInt8) ≥ 0) = inB singleT (l.getD 0 0) := by rw [u8b]; rfl
      refine two_intro (fun h5 => ?_) (fun h5 => ?_)
      · have h5 : inB singleT (l.getD 0 0) = true := by rw [← hb]; exact h5
        conv => whnf
        rw [if_pos h5] at hk
        exact hr _ _ rfl hk
      · have h5 : inB singleT (l.getD 0 0) = false := by rw [← hb]; exact h5
        conv => whnf
        rw [if_neg (by rw [h5]; exact Bool.false_ne_true)] at hk
        exact hr _ _ rfl hk
  · rw [hd1] at h
    have hp : ¬ pairP l = true := by simp only [pairP, h, Bool.false_and]; simp
    simp only [signP, if_neg hp] at hk
    conv => whnf
    refine ⟨⟨by omega, by omega⟩, ?_⟩
    conv => whnf
    refine ⟨_, _, rfl, ?_⟩
    conv => whnf
    have hb : decide (Lib.indexByte singleT ((byteAt l (Int.toNat 0)).toNat.toUInt8) ≥ 0) = inB singleT (l.getD 0 0) := by rw [u8b]; rfl
    refine two_intro (fun h5 => ?_) (fun h5 => ?_)
    · have h5 : inB singleT (l.getD 0 0) = true := by rw [← hb]; exact h5
      conv => whnf
      rw [if_pos h5] at hk
      exact hr _ _ rfl hk
    · have h5 : inB singleT (l.getD 0 0) = false := by rw [← hb]; exact h5
      conv => whnf
      rw [if_neg (by rw [h5]; exact Bool.false_ne_true)] at hk
      exact hr _ _ rfl hk
end Go.Proofs.YtkomdppjelnpdaaGreatDoor

namespace Go.Proofs.YtkomdppjelnpdaaGreatDoor
open Go.AE Go.Ru
set_option maxRecDepth 100000


/-! ### the state, told -/
def encTok (t : Tok) : List PV := [.int .i64 t.k.code, .int .i64 t.n, .int .i64 t.at_, .str t.tx]
def encs (e : Int) : List Tok → Nat → List PV
  | [], _ => [.int .i64 5, .int .i64 0, .int .i64 e, .str []]
  | t :: r, i => match i with
    | 0 => encTok t
    | i + 1 => encs e r i
def kidF (l : List Int) (i : Nat) : List PV := [.int .i64 (l.getD i 0)]
def encNode (n : Nd) : List PV := [.int .i64 n.k, .int .i64 n.n, .int .i64 n.at_, .str n.tx, .sl 1 n.kids.length (kidF n.kids)]
def nodeF (ns : List Nd) (i : Nat) : List PV := encNode (ns.getD i default)
def pb (e : Int) (ts : List Tok) (n : Nat) (op mo : Int) : ABlk := .box 120 [.p (.sl 4 (ts.length + 1) (encs e ts)), .slr 1 0 0 n, .p (.int .i64 op), .p (.int .i64 mo)]
def nb (ns : List Nd) : ABlk := .arr 30 5 0 ns.length (fun i => pvs (nodeF ns i))
def encP (e : Int) (ts : List Tok) (ns : List Nd) (op mo : Int) : List ABlk := [pb e ts ns.length op mo, nb ns]
def pp : AV := .ptr 0 0 1 0 0
def wrongV (a er : Int) : AV := .iface 117 (.agg [.p (.int .i64 a), .p (.int .i64 er)])

theorem encP_cl (e : Int) (ts : List Tok) (ns : List Nd) (op mo : Int) (r : Nat) : (hp (encP e ts ns op mo) r).cl 2 :=
  clK.hp (K := encP e ts ns op mo) ⟨(rfl : AV.cls 2 _ = true), fun i _ => rfl, trivial⟩ r

/-- a call on a parser's state, whatever lies behind it -/
theorem frameL {G : AG} (hG : GOk Tryz.prog G) (n : Nat) {f : FuncId} {args : List AV} {e : Int} {ts : List Tok} {ns : List Nd} {op mo : Int} {X : List ABlk} {k : AO → List ABlk → Prop} (hcl : AV.cls 2 args = true)
    (h : ∀ Q : AO → List ABlk → Prop,
      (∀ v K' ts' ns' op' mo', v.cl 2 = true → lesK (takeN K' 2) (encP e ts' ns' op' mo') → k (.ret v) (encP e ts' ns' op' mo' ++ X) → Q (.ret v) K') →
      (∀ v K', v.cl 0 = true → k (.pan v) (deads 2 ++ X) → Q (.pan v) K') → acall1 T0 G n f args (encP e ts ns op mo) Q) :
    ACalls Tryz.prog f args (encP e ts ns op mo ++ X) k := by
  refine (ACalls.frame (K0 := encP e ts ns op mo) (k := fun ao K1 => k ao (K1 ++ X)) hcl (fun r _ => encP_cl e ts ns op mo r)
    (ACalls.post (k := fun ao K1 => ∃ K2, lesK K1 K2 ∧ frameK 2 (fun ao K1 => k ao (K1 ++ X)) ao K2) (call_ok hG n f args _ _ (h _ ?_ ?_)) ?_)).mono ?_
  · intro v K' ts' ns' op' mo' h1 h3 h4
    refine ⟨encP e ts' ns' op' mo' ++ dropN K' 2, h3.head, h1, ?_, fun r hr => ?_, ?_⟩
    · simp [encP]
    · rw [hp_append, if_pos (show r < (encP e ts' ns' op' mo').length from hr)]; exact encP_cl e ts' ns' op' mo' r
    · have h5 : takeN (encP e ts' ns' op' mo' ++ dropN K' 2) 2 = encP e ts' ns' op' mo' := by simp [encP, takeN, takeN_zero]
      show k (.ret v) (takeN (encP e ts' ns' op' mo' ++ dropN K' 2) 2 ++ X)
      rw [h5]; exact h4
  · intro v K' h1 h2; exact ⟨K', lesK.refl _, h1, h2⟩
  · rintro (v | v) K1 ⟨K2, h1, h2⟩
    · exact ⟨v, K2, Wk1.le (AV.le_refl _) h1, h2⟩
    · exact ⟨v, K2, Wk1.le (AV.le_refl _) h1, h2⟩
  · rintro ao K ⟨K1, rfl, h⟩; exact h

theorem frameP {G : AG} (hG : GOk Tryz.prog G) (n : Nat) {f : FuncId} {args : List AV} {e : Int} {ts : List Tok} {ns : List Nd} {op mo : Int} {X : List ABlk} {k : AO → List ABlk → Prop} (hcl : AV.cls 2 args = true)
    (h : ∀ Q : AO → List ABlk → Prop,
      (∀ v K' ts' ns' op' mo', v.cl 2 = true → takeN K' 2 = encP e ts' ns' op' mo' → k (.ret v) (encP e ts' ns' op' mo' ++ X) → Q (.ret v) K') →
      (∀ v K', v.cl 0 = true → k (.pan v) (deads 2 ++ X) → Q (.pan v) K') → acall1 T0 G n f args (encP e ts ns op mo) Q) :
    ACalls Tryz.prog f args (encP e ts ns op mo ++ X) k :=
  frameL hG n hcl fun Q hr hp => h Q (fun v K' ts' ns' op' mo' h1 h2 h3 => hr v K' ts' ns' op' mo' h1 (h2 ▸ lesK.refl _) h3) hp

/-- what a call answers, or panics with -/
structure After {α : Type} (e : Int) (r : R α) (val : α → AV) (op : Int) (X : List ABlk) (k : AO → List ABlk → Prop) : Prop where
  ok : ∀ a ts' ns' mo', r = .ok a ⟨ts', ns', mo'⟩ → k (.ret (val a)) (encP e ts' ns' op mo' ++ X)
  bad : ∀ a er, r = .bad a er → k (.pan (wrongV a er)) (deads 2 ++ X)
def intV (x : Int) : AV := .p (.int .i64 x)
def tokV (t : Tok) : AV := .agg [.p (.int .i64 t.k.code), .p (.int .i64 t.n), .p (.int .i64 t.at_), .p (.str t.tx)]

/-! ### is -/
def cIs : AC := fun args K k => ∃ e ts ns op mo w X, args = [pp, .p (.str w)] ∧ K = encP e ts ns op mo ++ X ∧ k (.ret (.p (.bool (isS w ts)))) (encP e ts ns op mo ++ X)
theorem is_ok : COk 139 cIs := by
  rintro args K k ⟨e, ts, ns, op, mo, w, X, rfl, rfl, hk⟩
  refine frameP g0_ok 9 rfl fun Q hr hp => ?_
  cases ts with
  | nil =>
    conv => whnf
    refine ⟨by simp, ?_⟩
    conv => whnf
    exact hr _ _ _ _ _ _ rfl rfl hk
  | cons t r =>
    obtain ⟨tk, tn, ta, tx⟩ := t
    cases tk <;>
    · conv => whnf
      refine ⟨by simp; omega, ?_⟩
      conv => whnf
      exact hr _ _ _ _ _ _ rfl rfl hk

/-! ### take, fail, skip, want, ident -/
def cTake : AC := fun args K k => ∃ e t r ns op mo X, args = [pp] ∧ K = encP e (t :: r) ns op mo ++ X ∧ k (.ret (tokV t)) (encP e r ns op mo ++ X)
theorem take_ok : COk 140 cTake := by
  rintro args K k ⟨e, t, r, ns, op, mo, X, rfl, rfl, hk⟩
  refine frameP g0_ok 9 rfl fun Q hr hp => ?_
  conv => whnf
  refine ⟨by simp; omega, ?_⟩
  conv => whnf
  refine ⟨by simp; omega, ?_⟩
  conv => whnf
  exact hr _ _ r ns op mo rfl rfl hk

def cFail : AC := fun args K k => ∃ e ts ns op mo er X, args = [pp, .p (.int .i64 er)] ∧ K = encP e ts ns op mo ++ X ∧ k (.pan (wrongV (hd e ts) er)) (deads 2 ++ X)
theorem fail_ok : COk 94 cFail := by
  rintro args K k ⟨e, ts, ns, op, mo, er, X, rfl, rfl, hk⟩
  refine frameP g0_ok 9 rfl fun Q hr hp => ?_
  cases ts <;>
  · conv => whnf
    refine ⟨by simp <;> omega, ?_⟩
    conv => whnf
    exact hp _ _ rfl hk

def g1 : AG := gput 139 cIs (gput 140 cTake (gput 94 cFail g0))
theorem g1_ok : GOk Tryz.prog g1 := gput_ok is_ok (gput_ok take_ok (gput_ok fail_ok g0_ok))

theorem isS_cons {w : Bs} {ts : List Tok} (h : isS w ts = true) : ∃ t r, ts = t :: r := by
  cases ts with
  | nil => simp [isS] at h
  | cons t r => exact ⟨t, r, rfl⟩

structure SkipK (e : Int) (ts : List Tok) (ns : List Nd) (op mo : Int) (w : Bs) (X : List ABlk) (k : AO → List ABlk → Prop) : Prop where
  yes : isS w ts = true → k (.ret (.p (.bool true))) (encP e ts.tail ns op mo ++ X)
  no : isS w ts = false → k (.ret (.p (.bool false))) (encP e ts ns op mo ++ X)
def cSkip : AC := fun args K k => ∃ e ts ns op mo w X, args = [pp, .p (.str w)] ∧ K = encP e ts ns op mo ++ X ∧ SkipK e ts ns op mo w X k
theorem skip_ok : COk 170 cSkip := by
  rintro args K k ⟨e, ts, ns, op, mo, w, X, rfl, rfl, hk⟩
  refine frameP g1_ok 9 rfl fun Q hr hp => ?_
  conv => whnf
  refine ⟨_, _, _, _, _, _, _, rfl, rfl, ?_⟩
  conv => whnf
  cases h : isS w ts with
  | false =>
    conv => whnf
    exact hr _ _ _ _ _ _ rfl rfl (hk.no h)
  | true =>
    obtain ⟨t, r, rfl⟩ := isS_cons h
    conv => whnf
    refine ⟨_, _, _, _, _, _, _, rfl, rfl, ?_⟩
    conv => whnf
    exact hr _ _ _ _ _ _ rfl rfl (hk.yes h)

def cWant : AC := fun args K k => ∃ e ts ns op mo w X, args = [pp, .p (.str w)] ∧ K = encP e ts ns op mo ++ X ∧ After e (wantS e w ⟨ts, ns, mo⟩) (fun _ => .tup []) op X k
def g2 : AG := gput 170 cSkip g1
theorem g2_ok : GOk Tryz.prog g2 := gput_ok skip_ok g1_ok
theorem want_ok : COk 143 cWant := by
  rintro args K k ⟨e, ts, ns, op, mo, w, X, rfl, rfl, hk⟩
  refine frameP g2_ok 9 rfl fun Q hr hp => ?_
  conv => whnf
  refine ⟨_, _, _, _, _, _, _, rfl, rfl, ⟨fun h => ?_, fun h => ?_⟩⟩
  · conv => whnf
    exact hr _ _ _ _ _ _ rfl rfl (hk.ok () _ _ _ (by simp [wantS, h, dropS]))
  · conv => whnf
    refine ⟨_, _, _, _, _, _, _, rfl, rfl, ?_⟩
    conv => whnf
    exact hp _ _ rfl (hk.bad _ _ (by simp [wantS, h]))

def cIdent : AC := fun args K k => ∃ e ts ns op mo X, args = [pp] ∧ K = encP e ts ns op mo ++ X ∧ After e (identS e ⟨ts, ns, mo⟩) tokV op X k
theorem ident_ok : COk 141 cIdent := by
  rintro args K k ⟨e, ts, ns, op, mo, X, rfl, rfl, hk⟩
  refine frameP g2_ok 9 rfl fun Q hr hp => ?_
  cases ts with
  | nil =>
    conv => whnf
    refine ⟨by simp, ?_⟩
    conv => whnf
    refine ⟨_, _, _, _, _, _, _, rfl, rfl, ?_⟩
    conv => whnf
    exact hp _ _ rfl (hk.bad _ _ rfl)
  | cons t r =>
    obtain ⟨tk, tn, ta, tx⟩ := t
    cases tk with
    | name =>
      conv => whnf
      refine ⟨by simp; omega, ?_⟩
      conv => whnf
      refine ⟨_, _, _, _, _, _, _, rfl, rfl, ?_⟩
      conv => whnf
      exact hr _ _ _ _ _ _ rfl rfl (hk.ok _ _ _ _ rfl)
    | _ =>
      conv => whnf
      refine ⟨by simp; omega, ?_⟩
      conv => whnf
      refine ⟨_, _, _, _, _, _, _, rfl, rfl, ?_⟩
      conv => whnf
      exact hp _ _ rfl (hk.bad _ _ rfl)
def g3 : AG := gput 143 cWant (gput 141 cIdent g2)
theorem g3_ok : GOk Tryz.prog g3 := gput_ok want_ok (gput_ok ident_ok g2_ok)

/-! ### put -/
theorem put0 {e : Int} {ts : List Tok} {ns : List Nd} {op mo : Int} {n : Nd} {X : List ABlk} {k : AO → List ABlk → Prop} (hn : ns.length < 1000000)
    (hk : k (.ret (intV ns.length)) (encP e ts (ns ++ [n]) op mo ++ X)) :
    ACalls Tryz.prog 97 [pp, .agg [.p (.int .i64 n.k), .p (.int .i64 n.n), .p (.int .i64 n.at_), .p (.str n.tx), .p .nils], .p (.sl 1 n.kids.length (kidF n.kids))] (encP e ts ns op mo ++ X) k := by
  refine frameL g0_ok 9 rfl fun Q hr hp => ?_
  conv => whnf
  refine ⟨by conv => whnf, ?_⟩
  refine ⟨⟨rfl, rfl, rfl, fun i hi => ?_⟩, ?_⟩
  · obtain rfl : i = 0 := by omega
    rfl
  conv => whnf
  refine ⟨by simp; omega, ?_⟩
  conv => whnf
  have hv : IntKind.i64.wrap (((ns.length + 1 : Nat) : Int) - 1) = ns.length := by rw [w64] <;> omega
  rw [hv]
  refine hr _ _ ts (ns ++ [n]) op mo rfl ⟨ABlk.le_of_eq (by simp [pb]), ABlk.arr_eq (by simp) fun i hi => ?_, trivial⟩ hk
  by_cases h : i < ns.length
  · rw [catF_lt h]
    show pvs (nodeF ns i) = pvs (nodeF (ns ++ [n]) i)
    simp [nodeF, List.getElem?_append_left h]
  · obtain rfl : i = ns.length := by omega
    rw [catF_ge (Nat.le_refl _), Nat.sub_self]
    show _ = pvs (nodeF (ns ++ [n]) ns.length)
    simp [nodeF]
    rfl

/-- what kids are: none, or a row that nobody writes to behind this -/
structure PutK (e : Int) (ts : List Tok) (ns : List Nd) (op mo : Int) (n : Nd) (kv : AV) (X : List ABlk) (k : AO → List ABlk → Prop) : Prop where
  small : ns.length < 1000000
  none : kv = .p .nils → n.kids = [] ∧ k (.ret (intV ns.length)) (encP e ts (ns ++ [n]) op mo ++ X)
  row : ∀ r ver m, kv = .slr r ver 0 m → ∃ j f, r = j + 2 ∧ nth X j = some (.arr 3 1 ver m f) ∧ n.kids.length = m ∧ (∀ i, i < m → f i = [intV (n.kids.getD i 0)]) ∧ k (.ret (intV ns.length)) (encP e ts (ns ++ [n]) op mo ++ setN X j .dead)
  sort : kv = .p .nils ∨ ∃ r ver m, kv = .slr r ver 0 m
def cPut : AC := fun args K k => ∃ kids e ts ns op mo kd nn na tx kv X, args = [pp, .agg [.p (.int .i64 kd), .p (.int .i64 nn), .p (.int .i64 na), .p (.str tx), .p .nils], kv] ∧ K = encP e ts ns op mo ++ X ∧ PutK e ts ns op mo ⟨kd, nn, na, tx, kids⟩ kv X k
theorem PutK.nils {e : Int} {ts : List Tok} {ns : List Nd} {op mo kd nn na : Int} {tx : Bs} {X : List ABlk} {k : AO → List ABlk → Prop} (hs : ns.length < 1000000)
    (h : k (.ret (intV ns.length)) (encP e ts (ns ++ [⟨kd, nn, na, tx, []⟩]) op mo ++ X)) : PutK e ts ns op mo ⟨kd, nn, na, tx, []⟩ (.p .nils) X k :=
  ⟨hs, fun _ => ⟨rfl, h⟩, fun _ _ _ h => by simp at h, .inl rfl⟩
theorem PutK.slr {e : Int} {ts : List Tok} {ns : List Nd} {op mo kd nn na : Int} {tx : Bs} {kids : List Int} {j r ver m : Nat} {f : Nat → List AV} {X : List ABlk} {k : AO → List ABlk → Prop} (hs : ns.length < 1000000)
    (hr : r = j + 2) (hj : nth X j = some (.arr 3 1 ver m f)) (hm : kids.length = m) (hf : ∀ i, i < m → f i = [intV (kids.getD i 0)])
    (h : k (.ret (intV ns.length)) (encP e ts (ns ++ [⟨kd, nn, na, tx, kids⟩]) op mo ++ setN X j .dead)) : PutK e ts ns op mo ⟨kd, nn, na, tx, kids⟩ (.slr r ver 0 m) X k :=
  ⟨hs, fun h => by simp at h, fun r' ver' m' h' => by
    simp only [AV.slr.injEq] at h'
    obtain ⟨rfl, rfl, -, rfl⟩ := h'
    exact ⟨j, f, hr, hj, hm, hf, h⟩, .inr ⟨_, _, _, rfl⟩⟩
theorem put_ok : COk 97 cPut := by
  rintro args K k ⟨kids, e, ts, ns, op, mo, kd, nn, na, tx, kv, X, rfl, rfl, hk⟩
  rcases hk.sort with rfl | ⟨r, ver, m, rfl⟩
  · obtain ⟨h1, h2⟩ := hk.none rfl
    refine (put0 (n := ⟨kd, nn, na, tx, kids⟩) hk.small h2).pre (Wk.le ⟨AV.le_refl _, AV.le_refl _, ?_, trivial⟩ (lesK.refl _))
    rw [h1]; exact AV.nils_le 1 _
  · obtain ⟨j, f, rfl, hj, rfl, hf, h2⟩ := hk.row _ _ _ rfl
    refine (put0 (n := ⟨kd, nn, na, tx, kids⟩) hk.small h2).pre fun w m Args hS hV => ?_
    have hj' : nth (encP e ts ns op mo ++ X) (j + 2) = some (.arr 3 1 ver kids.length f) := hj
    obtain ⟨m', h3, h4, h5⟩ := freeze_sl hS hj' (kidF kids) hf
    refine ⟨m', h3, h4, hV.1, fun i hi hi' => ?_⟩
    have h6 := fun i hi hi' => (hV.2 i hi hi').mono h3
    rcases i with _ | _ | _ | i
    · exact h6 0 hi hi'
    · exact h6 1 hi hi'
    · exact h5 _ (hV.2 2 hi hi')
    · simp at hi; omega
def g4 : AG := gput 97 cPut g3
theorem g4_ok : GOk Tryz.prog g4 := gput_ok put_ok g3_ok

/-! ### one of some texts -/
def idxG (ts : List Tok) : Nat → List Bs → Int
  | _, [] => -1
  | i, w :: r => match isS w ts with
    | true => i
    | false => idxG ts (i + 1) r
def strF (l : List Bs) (i : Nat) : List PV := [.str (l.getD i [])]
def isF : AV := .fn 139 [pp] []
def cIdx : AC := fun args K k => ∃ e ts ns op mo l X, args = [.p (.sl 1 (List.length l) (strF l)), isF] ∧ K = encP e ts ns op mo ++ X ∧ l.length < 1000 ∧ k (.ret (intV (idxG ts 0 l))) (encP e ts ns op mo ++ X)
theorem idx_ok : COk 171 cIdx := by
  rintro args K k ⟨e, ts, ns, op, mo, l, X, rfl, rfl, hl, hk⟩
  refine frameP g1_ok 9 rfl fun Q hr hp => ?_
  conv => whnf
  refine loop_by (ι := Nat) (fun i => ⟨[(8, intV i), (7, intV l.length), (1, isF), (0, .p (.sl 1 l.length (strF l)))], encP e ts ns op mo⟩)
      (fun i => i ≤ l.length ∧ idxG ts i (l.drop i) = idxG ts 0 l) (fun i => l.length - i) 0 ⟨AV.le_refl _, AV.le_refl _, AV.le_refl _, AV.le_refl _, trivial⟩ (lesK.refl _) ⟨by omega, rfl⟩ ?_
  intro Y hle i ⟨hi, he⟩ ih
  conv => whnf
  refine two_intro (fun h => ?_) (fun h => ?_)
  · have h : i < l.length := by simpa using h
    rw [List.drop_eq_getElem_cons h] at he
    conv => whnf
    refine ⟨⟨by omega, by omega, rfl⟩, ?_⟩
    conv => whnf
    refine ⟨e, ts, ns, op, mo, _, [], rfl, rfl, ?_⟩
    conv => whnf
    have hi2 : ((i : Int)).toNat = i := by omega
    have e1 : l.getD (Int.toNat i) [] = l[i] := by simp [List.getD_eq_getElem?_getD, h]
    refine two_intro (fun h2 => ?_) (fun h2 => ?_)
    · conv => whnf
      have h2 : isS l[i] ts = true := e1 ▸ h2
      simp only [idxG, h2] at he
      exact hr _ _ ts ns op mo rfl rfl (he ▸ hk)
    · conv => whnf
      have h2 : isS l[i] ts = false := e1 ▸ h2
      simp only [idxG, h2] at he
      refine hle _ _ (Le.env ?_ (lesK.refl _)) (ih (i + 1) (by omega) ⟨by omega, he⟩)
      refine ⟨AV.le_of_eq ?_, AV.le_refl _, AV.le_refl _, AV.le_refl _, trivial⟩
      show AV.p (.int .i64 (IntKind.i64.wrap ((i : Int) + 1))) = intV ((i + 1 : Nat) : Int)
      rw [w64 (by omega)]; rfl
  · have h : ¬ i < l.length := by simpa using h
    obtain rfl : i = l.length := by omega
    rw [List.drop_length] at he
    conv => whnf
    rw [← he] at hk
    exact hr _ _ ts ns op mo rfl rfl hk
/-- the same of a row of memory, to which nobody writes behind this -/
def cIdx2 : AC := fun args K k => cIdx args K k ∨ ∃ l e ts ns op mo j r ver m f X, args = [.slr r ver 0 m, isF] ∧ K = encP e ts ns op mo ++ X ∧ r = j + 2 ∧ nth X j = some (.arr 9 1 ver m f) ∧ List.length l = m ∧ m < 1000 ∧ (∀ i, i < m → f i = pvs (strF l i)) ∧ k (.ret (intV (idxG ts 0 l))) (encP e ts ns op mo ++ setN X j .dead)
theorem idx2_ok : COk 171 cIdx2 := by
  rintro args K k (h | ⟨l, e, ts, ns, op, mo, j, r, ver, m, f, X, rfl, rfl, rfl, hj, rfl, hl, hf, hk⟩)
  · exact idx_ok args K k h
  · refine (idx_ok [.p (.sl 1 l.length (strF l)), isF] (encP e ts ns op mo ++ setN X j .dead) k ⟨e, ts, ns, op, mo, l, _, rfl, rfl, hl, hk⟩).pre fun w m Args hS hV => ?_
    have hj' : nth (encP e ts ns op mo ++ X) (j + 2) = some (.arr 9 1 ver l.length f) := hj
    obtain ⟨m', h3, h4, h5⟩ := freeze_sl hS hj' (strF l) hf
    refine ⟨m', h3, h4, hV.1, fun i hi hi' => ?_⟩
    have h6 := fun i hi hi' => (hV.2 i hi hi').mono h3
    rcases i with _ | _ | i
    · exact h5 _ (hV.2 0 hi hi')
    · exact h6 1 hi hi'
    · simp at hi; omega
def g5 : AG := gput 171 cIdx2 g4
theorem g5_ok : GOk Tryz.prog g5 := gput_ok idx2_ok g4_ok

theorem idxG_any (ts : List Tok) (l : List Bs) (i : Nat) : decide (idxG ts i l ≥ 0) = anyS l ts := by
  induction l generalizing i with
  | nil => rfl
  | cons w r ih =>
    simp only [idxG, anyS, List.any_cons]
    by_cases h : isS w ts = true
    · simp [h]
    · have h : isS w ts = false := by simpa using h
      simp only [h]
      rw [Bool.false_or]; exact ih (i + 1)

def cAny : AC := fun args K k => ∃ e ts ns op mo l X, args = [.p (.sl 1 (List.length l) (strF l)), isF] ∧ K = encP e ts ns op mo ++ X ∧ l.length < 1000 ∧ k (.ret (.p (.bool (anyS l ts)))) (encP e ts ns op mo ++ X)
theorem any_ok : COk 194 cAny := by
  rintro args K k ⟨e, ts, ns, op, mo, l, X, rfl, rfl, hl, hk⟩
  refine frameP g5_ok 9 rfl fun Q hr hp => ?_
  conv => whnf
  refine .inl ⟨e, ts, ns, op, mo, l, [], rfl, rfl, hl, ?_⟩
  conv => whnf
  rw [← idxG_any ts l 0] at hk
  exact hr _ _ ts ns op mo rfl rfl hk

/-- the signs of a row -/
def cRows : AC := fun args K k => ∃ j : Nat, ∃ kk, j ≤ 4 ∧ args = [.p (.int .i64 kk)] ∧ kk = 4 - (j : Int) ∧ k (.ret (.p (.sl 1 (rowS j).length (strF (rowS j))))) K
theorem rows_ok : COk 195 cRows := by
  rintro args K k ⟨j, kk, hj, rfl, rfl, hk⟩
  refine (ACalls.frame (K0 := []) (X := K) (k := fun ao K1 => k ao (K1 ++ K)) rfl (fun r h => by simp at h) ?_).mono (fun ao K1 h => ?_)
  · refine (ACalls.post (k := fun ao K1 => ∃ f, ao = .ret (.slr 0 0 0 (rowS j).length) ∧ K1 = [.arr 9 1 0 (rowS j).length f] ∧ ∀ i, i < (rowS j).length → f i = pvs (strF (rowS j) i)) (call_ok g0_ok 9 _ _ _ _ ?_) ?_)
    · have hc : j = 0 ∨ j = 1 ∨ j = 2 ∨ j = 3 ∨ j = 4 := by omega
      rcases hc with rfl | rfl | rfl | rfl | rfl
      · conv => whnf
        exact ⟨_, rfl, rfl, allLt_ok ⟨⟨⟨trivial, rfl⟩, rfl⟩, rfl⟩⟩
      · conv => whnf
        exact ⟨_, rfl, rfl, allLt_ok ⟨⟨trivial, rfl⟩, rfl⟩⟩
      · conv => whnf
        exact ⟨_, rfl, rfl, allLt_ok ⟨⟨⟨⟨⟨⟨trivial, rfl⟩, rfl⟩, rfl⟩, rfl⟩, rfl⟩, rfl⟩⟩
      · conv => whnf
        exact ⟨_, rfl, rfl, allLt_ok ⟨trivial, rfl⟩⟩
      · conv => whnf
        exact ⟨_, rfl, rfl, allLt_ok ⟨trivial, rfl⟩⟩
    · rintro ao K1 ⟨f, rfl, rfl, hf⟩
      refine ⟨_, _, Wk1.freeze (r := 0) rfl (strF (rowS j)) hf, rfl, ?_, fun r h => by simp at h, hk⟩
      simp
  · obtain ⟨K2, rfl, h⟩ := h; exact h
def g6 : AG := gput 194 cAny (gput 195 cRows g5)
theorem g6_ok : GOk Tryz.prog g6 := gput_ok any_ok (gput_ok rows_ok g5_ok)

def typeL : List Bs := [[105, 110, 116], [98, 111, 111, 108], [97, 114, 114], [102, 117, 110]]
theorem types_eq (ts : List Tok) : idxG ts 0 typeL + 1 = typesS ts := by
  simp only [typeL, idxG, typesS]
  split <;> rename_i h1 <;> simp only [h1]
  · rfl
  split <;> rename_i h2 <;> simp only [h2]
  · rfl
  split <;> rename_i h3 <;> simp only [h3]
  · rfl
  split <;> rename_i h4 <;> simp only [h4]
  · rfl
  · rfl
theorem types_in (ts : List Tok) : 0 ≤ typesS ts ∧ typesS ts ≤ 4 := by
  simp only [typesS]
  repeat' split
  all_goals omega

def cTypes : AC := fun args K k => ∃ e ts ns op mo X, args = [pp] ∧ K = encP e ts ns op mo ++ X ∧ k (.ret (intV (typesS ts))) (encP e ts ns op mo ++ X)
theorem typesC_ok : COk 148 cTypes := by
  rintro args K k ⟨e, ts, ns, op, mo, X, rfl, rfl, hk⟩
  refine frameP g5_ok 9 rfl fun Q hr hp => ?_
  conv => whnf
  refine .inr ⟨typeL, e, ts, ns, op, mo, 0, _, _, _, _, _, rfl, rfl, rfl, rfl, rfl, by decide, allLt_ok ⟨⟨⟨⟨trivial, rfl⟩, rfl⟩, rfl⟩, rfl⟩, ?_⟩
  conv => whnf
  have hv : IntKind.i64.wrap (idxG ts 0 typeL + 1) = typesS ts := by
    rw [types_eq]
    have := types_in ts
    rw [w64 (by omega)]
  rw [hv]
  exact hr _ _ ts ns op mo rfl rfl hk
def g7 : AG := gput 148 cTypes g6
theorem g7_ok : GOk Tryz.prog g7 := gput_ok typesC_ok g6_ok
end Go.Proofs.YtkomdppjelnpdaaGreatDoor

namespace Go.Proofs.YtkomdppjelnpdaaGreatDoor
open Go.AE Go.Ru
set_option maxRecDepth 100000
set_option pp.maxSteps 2000

/-- a call that leaves some blocks as they are, whatever lies behind them -/
theorem frameS {G : AG} (hG : GOk Tryz.prog G) (n : Nat) {f : FuncId} {args : List AV} {K0 X : List ABlk} {k : AO → List ABlk → Prop} (hcl : AV.cls K0.length args = true) (hK : clK K0.length K0)
    (h : ∀ Q : AO → List ABlk → Prop, (∀ v K', v.cl K0.length = true → K0.length ≤ K'.length → takeN K' K0.length = K0 → k (.ret v) (K0 ++ X) → Q (.ret v) K') → acall1 T0 G n f args K0 Q) : ACalls Tryz.prog f args (K0 ++ X) k := by
  refine (ACalls.frame (K0 := K0) (X := X) (k := fun ao K1 => k ao (K1 ++ X)) hcl (fun r h => clK.hp hK r) (call_ok hG n f args K0 _ (h _ ?_))).mono fun ao K ⟨K1, h1, h2⟩ => by subst h1; exact h2
  intro v K' h1 h2 h3 h4
  refine ⟨h1, h2, fun r hr => ?_, ?_⟩
  · have e := congrArg (fun L => hp L r) h3
    simp only [hp_takeN, if_pos hr] at e
    rw [e]; exact clK.hp hK r
  · show k (.ret v) (takeN K' K0.length ++ X)
    rw [h3]; exact h4
theorem frame0W {G : AG} (hG : GOk Tryz.prog G) (n : Nat) {f : FuncId} {args : List AV} {X : List ABlk} {k : AO → List ABlk → Prop} (hcl : AV.cls 0 args = true)
    (h : ∀ Q : AO → List ABlk → Prop, (∀ v K' v' K2, Wk1 0 v K' v' K2 → v'.cl 0 = true → k (.ret v') X → Q (.ret v) K') → acall1 T0 G n f args [] Q) : ACalls Tryz.prog f args X k := by
  refine (ACalls.frame (K0 := []) (X := X) (k := fun ao K1 => k ao (K1 ++ X)) hcl (fun r h => by simp at h)
    (ACalls.post (k := fun ao K1 => ∃ v v' K2, ao = .ret v ∧ Wk1 0 v K1 v' K2 ∧ v'.cl 0 = true ∧ k (.ret v') X) (call_ok hG n f args [] _ (h _ ?_)) ?_)).mono fun ao K ⟨K1, h1, h2⟩ => by subst h1; exact h2
  · intro v K' v' K2 h1 h2 h3
    exact ⟨v, v', K2, rfl, h1, h2, h3⟩
  · rintro ao K1 ⟨v, v', K2, rfl, h1, h2, h3⟩
    refine ⟨v', K2, h1, h2, by simp, fun r hr => by simp at hr, ?_⟩
    show k (.ret v') (takeN K2 0 ++ X)
    rw [takeN_zero]; exact h3

def cutK (s : Bs) (i : Nat) : List ABlk := [.box 9 [.p (.str s)], .box 3 [.p (.int .i64 i)]]
def cRow : AC := fun args K k => ∃ (some s : Bs) (i : Nat) (ii : Int) (X : List ABlk), args = [.p (.str some), .ptr 1 0 1 0 0, .ptr 0 0 1 0 0] ∧ K = [.box 9 [.p (.str s)], .box 3 [.p (.int .i64 ii)]] ++ X ∧ ii = i ∧ i ≤ s.length ∧ s.length < 1000000 ∧
  k (.ret (.p (.int .i64 ((i + runS some (s.drop i) : Nat) : Int)))) (cutK s i ++ X)
theorem runS_cons (l : Bs) (c : UInt8) (r : Bs) : runS l (c :: r) = if inB l c then runS l r + 1 else 0 := by
  simp only [runS, List.takeWhile_cons]
  split <;> simp
theorem row_ok : COk 136 cRow := by
  rintro args K k ⟨m, s, i, _, X, rfl, rfl, rfl, hi, hs, hk⟩
  refine frameS (K0 := cutK s i) gL_ok 19 rfl ⟨rfl, rfl, trivial⟩ fun Q hr => ?_
  conv => whnf
  refine loop_by (ι := Nat) (fun j => ⟨[(0, .p (.str m)), (2, .ptr 0 0 1 0 0), (5, .p (.int .i64 j))], cutK s i⟩)
    (fun j => j ≤ s.length ∧ i + runS m (s.drop i) = j + runS m (s.drop j)) (fun j => s.length - j) i ⟨AV.le_refl _, AV.le_refl _, AV.le_refl _, trivial⟩ (lesK.refl _) ⟨hi, rfl⟩ ?_
  intro Y hle j ⟨hj, he⟩ ih
  have hd1 : decide ((j : Int) < (s.length : Int)) = decide (j < s.length) := by
    by_cases h : j < s.length
    · rw [decide_eq_true h, decide_eq_true (by omega)]
    · rw [decide_eq_false h, decide_eq_false (by omega)]
  conv => whnf
  refine two_intro (fun h => ?_) (fun h => ?_)
  · rw [hd1] at h
    have h := of_decide_eq_true h
    have hs2 : s.drop j = s[j] :: s.drop (j + 1) := List.drop_eq_getElem_cons h
    rw [hs2, runS_cons] at he
    conv => whnf
    refine ⟨⟨by omega, by omega⟩, ?_⟩
    conv => whnf
    refine ⟨_, _, rfl, ?_⟩
    conv => whnf
    have hb : decide (Lib.indexByte m ((byteAt s (Int.toNat j)).toNat.toUInt8) ≥ 0) = inB m s[j] := by
      rw [u8b, Int.toNat_natCast, List.getD_eq_getElem?_getD, List.getElem?_eq_getElem h]; rfl
    refine two_intro (fun h5 => ?_) (fun h5 => ?_)
    · rw [hb] at h5
      rw [if_pos h5] at he
      conv => whnf
      refine hle _ _ (Le.env ?_ (lesK.refl _)) (ih (j + 1) (by omega) ⟨by omega, by omega⟩)
      refine ⟨AV.le_refl _, AV.le_refl _, AV.le_of_eq ?_, trivial⟩
      show AV.p (.int .i64 (IntKind.i64.wrap ((j : Int) + 1))) = .p (.int .i64 ((j + 1 : Nat) : Int))
      rw [w64 (by omega)]; rfl
    · rw [hb] at h5
      rw [if_neg (by rw [h5]; exact Bool.false_ne_true)] at he
      conv => whnf
      rw [he] at hk
      exact hr _ _ rfl (Nat.le_refl _) rfl hk
  · rw [hd1] at h
    have h := of_decide_eq_false h
    obtain rfl : j = s.length := by omega
    rw [List.drop_length] at he
    conv => whnf
    rw [he] at hk
    exact hr _ _ rfl (Nat.le_refl _) rfl hk

def tokF (l : List Tok) (j : Nat) : List PV := encTok (l.getD j ⟨.name, 0, 0, []⟩)
def tokA (l : List Tok) : ABlk := .arr 122 4 0 l.length fun j => pvs (tokF l j)
def cutV (e : Int) : CR → AV
  | .ok l => .tup [.p (.sl 4 (l.length + 1) (encs e l)), .p (.int .i64 0), .p (.int .i64 0)]
  | .bad a => .tup [.p .nils, .p (.int .i64 (a : Nat)), .p (.int .i64 2)]
def cCutT : AC := fun args K k => ∃ s, args = [.p (.str s)] ∧ s.length < 1000000 ∧
  (s.length > 20000 → k (.ret (.tup [.p .nils, .p (.int .i64 0), .p (.int .i64 7)])) K) ∧ (s.length ≤ 20000 → k (.ret (cutV s.length (cutT s))) K)
structure TC where
  l : List Tok
  i : Nat
  n : Nat
def CR.app (l : List Tok) : CR → CR
  | .ok l' => .ok (l ++ l')
  | .bad a => .bad a
def gT : AG := gput 136 cRow (gput 137 cWordT (gput 138 cSignT gI))
theorem gT_ok : GOk Tryz.prog gT := gput_ok row_ok (gput_ok wordT_ok (gput_ok signT_ok gI_ok))
theorem encs_lt (e : Int) (l : List Tok) (j : Nat) (h : j < l.length) : encs e l j = tokF l j := by
  induction l generalizing j with
  | nil => simp at h
  | cons t r ih =>
    cases j with
    | zero => rfl
    | succ j => exact ih j (by simpa using h)
theorem encs_at (e : Int) (l : List Tok) : encs e l l.length = [.int .i64 5, .int .i64 0, .int .i64 e, .str []] := by
  induction l with
  | nil => rfl
  | cons t r ih => exact ih
theorem enc_all (e : Int) (l : List Tok) (f : Nat → List AV) (hf : f 0 = pvs [.int .i64 5, .int .i64 0, .int .i64 e, .str []]) : ∀ j, j < l.length + 1 → catF l.length (fun j => pvs (tokF l j)) f j = pvs (encs e l j) := fun j hj => by
  by_cases h : j < l.length
  · rw [catF_lt h, encs_lt e l j h]
  · obtain rfl : j = l.length := by omega
    rw [catF_ge (Nat.le_refl _), Nat.sub_self, hf, encs_at]
theorem tokA_snoc (l : List Tok) (x : Tok) (f : Nat → List AV) (hf : f 0 = pvs (encTok x)) : (ABlk.arr 122 4 0 (l.length + 1) (catF l.length (fun i => pvs (tokF l i)) f)).le (tokA (l ++ [x])) := by
  refine ABlk.arr_eq (by simp) fun i hi => ?_
  by_cases h : i < l.length
  · rw [catF_lt h]
    simp [tokF, List.getD_eq_getElem?_getD, List.getElem?_append_left h]
  · obtain rfl : i = l.length := by omega
    rw [catF_ge (Nat.le_refl _), Nat.sub_self, hf]
    simp [tokF, List.getD_eq_getElem?_getD]
theorem tok_cl (l : List Tok) (x : Tok) (f : Nat → List AV) (n : Nat) (hf : f 0 = pvs (encTok x)) : (ABlk.arr 122 4 0 (l.length + 1) (catF l.length (fun i => pvs (tokF l i)) f)).cl n := fun i hi => by
  by_cases h : i < l.length
  · rw [catF_lt h]; rfl
  · obtain rfl : i = l.length := by omega
    rw [catF_ge (Nat.le_refl _), Nat.sub_self, hf]; rfl
theorem slr_len (l : List Tok) (x : Tok) : AV.slr 2 0 0 (l.length + 1) = AV.slr 2 0 0 (l ++ [x]).length := by simp
theorem app_cons (l : List Tok) (t : Tok) (r : CR) : CR.app l (r.cons t) = CR.app (l ++ [t]) r := by
  cases r with
  | ok l' => simp [CR.cons, CR.app]
  | bad a => rfl
theorem cutT_ok : COk 92 cCutT := by
  rintro args K k ⟨s, rfl, hs, hk1, hk2⟩
  refine frame0W gT_ok 19 rfl fun Q hr => ?_
  have hd1 : decide ((s.length : Int) > 20000) = decide (s.length > 20000) := by
    by_cases h : s.length > 20000
    · rw [decide_eq_true h, decide_eq_true (by omega)]
    · rw [decide_eq_false h, decide_eq_false (by omega)]
  conv => whnf
  refine two_intro (fun h => ?_) (fun h => ?_)
  · rw [hd1] at h
    have h := of_decide_eq_true h
    conv => whnf
    exact hr _ _ _ _ (Wk1.refl _ _ _) rfl (hk1 h)
  rw [hd1] at h
  have h := of_decide_eq_false h
  have hk := hk2 (by omega)
  clear hk1 hk2
  conv => whnf
  refine loop_nil (ι := TC) 122 4 (fun j => pvs (tokF [] j)) (fun i => ⟨[(1, .ptr 0 0 1 0 0), (6, .ptr 1 0 1 0 0), (7, .fn 136 [] [.ptr 1 0 1 0 0, .ptr 0 0 1 0 0]), (5, .slr 2 0 0 i.l.length)], cutK s i.i ++ [tokA i.l]⟩)
    (fun i => i.i ≤ s.length ∧ s.length ≤ i.i + i.n ∧ i.l.length ≤ i.i ∧ CR.app i.l (cutS i.n (s.drop i.i) i.i) = cutT s) (fun i => i.n) ⟨[], 0, s.length⟩ (cutK s 0)
    rfl ⟨.inl (AV.le_refl _), .inl (AV.le_refl _), .inl (AV.le_refl _), .inr ⟨rfl, rfl⟩, trivial⟩ (nswK.refl _ _) rfl ⟨Nat.zero_le _, by simp, Nat.le_refl _, ?_⟩ ?_
  · show CR.app [] (cutS s.length s 0) = cutT s
    unfold cutT
    cases cutS s.length s 0 <;> rfl
  rintro Y hle ⟨l, i, n⟩ ⟨hi, hn, hl, he⟩ ih
  simp only at hi hn hl he
  have hd2 : decide ((i : Int) < (s.length : Int)) = decide (i < s.length) := by
    by_cases h : i < s.length
    · rw [decide_eq_true h, decide_eq_true (by omega)]
    · rw [decide_eq_false h, decide_eq_false (by omega)]
  conv => whnf
  refine two_intro (fun h => ?_) (fun h => ?_)
  · rw [hd2] at h
    have h := of_decide_eq_true h
    cases n with
    | zero => omega
    | succ n =>
    have hs2 : s.drop i = s[i] :: s.drop (i + 1) := List.drop_eq_getElem_cons h
    have hrl : ∀ m, runS m (s.drop i) ≤ s.length - i := fun m => by
      unfold runS
      refine Nat.le_trans (List.takeWhile_sublist _).length_le ?_
      simp
    conv => whnf
    refine ⟨_, _, _, _, _, rfl, rfl, rfl, hi, hs, ?_⟩
    conv => whnf
    refine ⟨_, _, _, _, _, rfl, rfl, rfl, hi, hs, ?_⟩
    conv => whnf
    repeat ((refine And.intro ?_ ?_); (focus ((conv => whnf); done)); (conv => whnf))
    refine two_intro (fun h2 => ?_) (fun h2 => ?_)
    · have h2 : 0 < runS blanksT (s.drop i) := by
        have := of_decide_eq_true h2
        have : ((i + runS blanksT (s.drop i) : Nat) : Int) > (i : Int) := this
        omega
      have hb := hrl blanksT
      conv => whnf
      refine ⟨_, _, _, _, _, rfl, rfl, rfl, hi, hs, ?_⟩
      conv => whnf
      refine hle _ _ (Le.env ?_ ?_) (ih ⟨l, i + runS blanksT (s.drop i), n⟩ (Nat.lt_succ_self _) ⟨?_, ?_, ?_, ?_⟩)
      · exact ⟨AV.le_refl _, AV.le_refl _, AV.le_refl _, AV.le_refl _, trivial⟩
      · exact ⟨ABlk.le_refl _, ABlk.le_refl _, ABlk.le_refl _, trivial⟩
      · simp only; omega
      · simp only; omega
      · simp only; omega
      · rw [← he]
        simp only [cutS, hs2]
        rw [hs2] at h2
        rw [if_pos h2, ← hs2, List.drop_drop]
    · have h2 : ¬ 0 < runS blanksT (s.drop i) := by
        have := of_decide_eq_false h2
        have : ¬ ((i + runS blanksT (s.drop i) : Nat) : Int) > (i : Int) := this
        omega
      conv => whnf
      refine ⟨(⟨by omega, by omega⟩ : (0 : Int) ≤ (i : Int) ∧ (i : Int) < (s.length : Int)), ?_⟩
      conv => whnf
      have hby : byteAt s (Int.toNat i) = (s[i].toNat : Int) := by
        unfold byteAt
        rw [Int.toNat_natCast, List.getD_eq_getElem?_getD, List.getElem?_eq_getElem h]; rfl
      simp only [cutS, hs2] at he
      rw [hs2] at h2
      rw [if_neg h2] at he
      refine two_intro (fun h3 => ?_) (fun h3 => ?_)
      · have h3 : s[i] = 35 := by
          have h3 : (byteAt s (Int.toNat i) == 35) = true := h3
          rw [hby] at h3
          have := eq_of_beq h3
          exact UInt8.toNat_inj.1 (by show s[i].toNat = 35; omega)
        rw [if_pos h3, ← hs2] at he
        conv => whnf
        refine loop_by (ι := Nat) (fun j => ⟨[(1, .ptr 0 0 1 0 0), (6, .ptr 1 0 1 0 0), (7, .fn 136 [] [.ptr 1 0 1 0 0, .ptr 0 0 1 0 0]), (5, .slr 2 0 0 l.length)], cutK s j ++ [tokA l]⟩)
          (fun j => i ≤ j ∧ j ≤ s.length ∧ (s.drop i).dropWhile (fun c => !(c == 10)) = (s.drop j).dropWhile (fun c => !(c == 10)) ∧ i + ((s.drop i).takeWhile (fun c => !(c == 10))).length = j + ((s.drop j).takeWhile (fun c => !(c == 10))).length) (fun j => s.length - j) i
          ?_ ?_ ⟨Nat.le_refl _, hi, rfl, rfl⟩ ?_
        · exact ⟨AV.le_refl _, AV.le_refl _, AV.le_refl _, AV.le_refl _, trivial⟩
        · exact ⟨ABlk.le_refl _, ABlk.le_refl _, ABlk.le_refl _, trivial⟩
        intro Z hle2 j ⟨hij, hj, hdw, htw⟩ ih2
        have hd3 : decide ((j : Int) < (s.length : Int)) = decide (j < s.length) := by
          by_cases h : j < s.length
          · rw [decide_eq_true h, decide_eq_true (by omega)]
          · rw [decide_eq_false h, decide_eq_false (by omega)]
        have fin : ∀ j, i < j → j ≤ s.length → (s.drop i).dropWhile (fun c => !(c == 10)) = s.drop j → i + ((s.drop i).takeWhile (fun c => !(c == 10))).length = j → (TC.mk l j n).i ≤ s.length ∧ s.length ≤ (TC.mk l j n).i + (TC.mk l j n).n ∧ (TC.mk l j n).l.length ≤ (TC.mk l j n).i ∧ CR.app (TC.mk l j n).l (cutS (TC.mk l j n).n (s.drop (TC.mk l j n).i) (TC.mk l j n).i) = cutT s := fun j h1 h2 h3 h4 => by
          refine ⟨h2, ?_, ?_, ?_⟩
          · simp only; omega
          · simp only; omega
          · rw [← he, h3, h4]
        conv => whnf
        refine two_intro (fun h4 => ?_) (fun h4 => ?_)
        · rw [hd3] at h4
          have h4 := of_decide_eq_true h4
          have hsj : s.drop j = s[j] :: s.drop (j + 1) := List.drop_eq_getElem_cons h4
          rw [hsj] at hdw htw
          simp only [List.dropWhile_cons, List.takeWhile_cons] at hdw htw
          conv => whnf
          refine ⟨⟨by omega, by omega⟩, ?_⟩
          conv => whnf
          have hby2 : byteAt s (Int.toNat j) = (s[j].toNat : Int) := by
            unfold byteAt
            rw [Int.toNat_natCast, List.getD_eq_getElem?_getD, List.getElem?_eq_getElem h4]; rfl
          have hb : (byteAt s (Int.toNat j) != 10) = !(s[j] == 10) := by
            rw [hby2]
            show (!((s[j].toNat : Int) == 10)) = _
            congr 1
            rw [Bool.eq_iff_iff]
            simp only [beq_iff_eq]
            constructor
            · intro h
              exact UInt8.toNat_inj.1 (by show s[j].toNat = 10; omega)
            · intro h; rw [h]; rfl
          refine two_intro (fun h5 => ?_) (fun h5 => ?_)
          · have h5 : (!(s[j] == 10)) = true := by rw [← hb]; exact h5
            rw [if_pos h5] at hdw htw
            conv => whnf
            refine hle2 _ _ (Le.env ?_ ?_) (ih2 (j + 1) (by omega) ⟨by omega, by omega, hdw, ?_⟩)
            · exact ⟨AV.le_refl _, AV.le_refl _, AV.le_refl _, AV.le_refl _, trivial⟩
            · refine ⟨ABlk.le_refl _, ABlk.le_of_eq ?_, ABlk.le_refl _, trivial⟩
              show ABlk.box 3 [.p (.int .i64 (IntKind.i64.wrap ((j : Int) + 1)))] = _
              rw [w64 (by omega)]; rfl
            · simp only [List.length_cons] at htw; omega
          · have h5 : (!(s[j] == 10)) = false := by rw [← hb]; exact h5
            rw [if_neg (by rw [h5]; exact Bool.false_ne_true)] at hdw htw
            have hij2 : i < j := by
              rcases Nat.lt_or_ge i j with h | h
              · exact h
              · exfalso
                have : i = j := by omega
                subst this
                rw [h3] at h5; simp at h5
            conv => whnf
            refine hle _ _ (Le.env ?_ ?_) (ih ⟨l, j, n⟩ (Nat.lt_succ_self _) (fin j hij2 hj (by rw [hdw, hsj]) (by simpa using htw)))
            · exact ⟨AV.le_refl _, AV.le_refl _, AV.le_refl _, AV.le_refl _, trivial⟩
            · exact ⟨ABlk.le_refl _, ABlk.le_refl _, ABlk.le_refl _, trivial⟩
        · rw [hd3] at h4
          have h4 := of_decide_eq_false h4
          obtain rfl : j = s.length := by omega
          conv => whnf
          refine hle _ _ (Le.env ?_ ?_) (ih ⟨l, s.length, n⟩ (Nat.lt_succ_self _) (fin s.length h hj (by rw [hdw]; simp) (by simpa using htw)))
          · exact ⟨AV.le_refl _, AV.le_refl _, AV.le_refl _, AV.le_refl _, trivial⟩
          · exact ⟨ABlk.le_refl _, ABlk.le_refl _, ABlk.le_refl _, trivial⟩
      have h3 : ¬ s[i] = 35 := fun e => by
        have h3 : (byteAt s (Int.toNat i) == 35) = false := h3
        rw [hby, e] at h3
        simp at h3
      rw [if_neg h3, ← hs2] at he
      conv => whnf
      refine two_intro (fun h4 => ?_) (fun h4 => ?_)
      · have h4 : 0 < runS partsT (s.drop i) := by
          have := of_decide_eq_true h4
          have : ((i + runS partsT (s.drop i) : Nat) : Int) > (i : Int) := this
          omega
        rw [if_pos h4] at he
        conv => whnf
        have hp := hrl partsT
        refine ⟨(⟨by omega, by omega, by omega⟩ : (0 : Int) ≤ (i : Int) ∧ (i : Int) ≤ ((i + runS partsT (s.drop i) : Nat) : Int) ∧ ((i + runS partsT (s.drop i) : Nat) : Int) ≤ (s.length : Int)), ?_⟩
        conv => whnf
        have hw : (s.take (Int.toNat ((i + runS partsT (s.drop i) : Nat) : Int))).drop (Int.toNat (i : Int)) = (s.drop i).take (runS partsT (s.drop i)) := by
          rw [Int.toNat_natCast, Int.toNat_natCast, List.drop_take, Nat.add_sub_cancel_left]
        have hwl : ((s.drop i).take (runS partsT (s.drop i))).length < 1000000 := by
          simp only [List.length_take, List.length_drop]; omega
        have hsb : (0 : Int) ≤ (i : Int) ∧ (i : Int) ≤ ((i + runS partsT (s.drop i) : Nat) : Int) ∧ ((i + runS partsT (s.drop i) : Nat) : Int) ≤ (s.length : Int) := ⟨by omega, by omega, by omega⟩
        refine ⟨?_, ?_⟩
        · conv => whnf
          refine ⟨(s.drop i).take (runS partsT (s.drop i)), (i : Int), congrArg (fun w => [AV.p (PV.str w), AV.p (PV.int .i64 (i : Int))]) hw, hwl, ?_⟩
          cases hwp : wordP ((s.drop i).take (runS partsT (s.drop i))) with
          | none =>
            rw [hwp] at he
            have hct : cutT s = .bad i := by rw [← he]; rfl
            rw [hct] at hk
            conv => whnf
            repeat ((refine And.intro ?_ ?_); (focus ((conv => whnf); done)); (conv => whnf))
            first | ((refine ⟨⟨hsb, rfl⟩, ?_⟩); (conv => whnf); repeat ((refine And.intro ?_ ?_); (focus ((conv => whnf); done)); (conv => whnf))) | skip
            exact hr _ _ _ _ (Wk1.refl _ _ _) rfl hk
          | some q =>
            obtain ⟨kd, v⟩ := q
            rw [hwp] at he
            simp only at he
            conv => whnf
            repeat ((refine And.intro ?_ ?_); (focus ((conv => whnf); done)); (conv => whnf))
            first | ((refine ⟨⟨hsb, rfl⟩, ?_⟩); (conv => whnf); repeat ((refine And.intro ?_ ?_); (focus ((conv => whnf); done)); (conv => whnf))) | skip
            refine ⟨⟨rfl, rfl, rfl, allLt_ok ⟨trivial, rfl⟩⟩, ?_⟩
            conv => whnf
            refine ⟨⟨rfl, rfl, rfl, rfl, ?_, ?_⟩, ?_⟩
            · show (l.length + 1) * 40 ≤ 140737488355328
              omega
            · show l.length + 1 ≤ 9223372036854775807
              omega
            conv => whnf
            refine hle _ _ (Le.cutEnv 3 rfl rfl ⟨rfl, rfl, ?_, trivial⟩ ?_ ?_) (ih ⟨l ++ [⟨kd, v, i, (s.drop i).take (runS partsT (s.drop i))⟩], i + runS partsT (s.drop i), n⟩ (Nat.lt_succ_self _) ⟨?_, ?_, ?_, ?_⟩)
            · exact tok_cl l ⟨kd, v, i, (s.drop i).take (runS partsT (s.drop i))⟩ _ 3 rfl
            · exact ⟨AV.le_refl _, AV.le_refl _, AV.le_refl _, AV.le_of_eq (slr_len _ _), trivial⟩
            · exact ⟨ABlk.le_refl _, ABlk.le_refl _, tokA_snoc l ⟨kd, v, i, (s.drop i).take (runS partsT (s.drop i))⟩ _ rfl, trivial⟩
            · simp only; omega
            · simp only; omega
            · simp only [List.length_append, List.length_cons, List.length_nil]; omega
            · rw [← he, app_cons, List.drop_drop]
        · conv => whnf
          repeat ((refine And.intro ?_ ?_); (focus ((conv => whnf); done)); (conv => whnf))
          refine ⟨⟨hsb, rfl⟩, ?_⟩
          conv => whnf
          repeat ((refine And.intro ?_ ?_); (focus ((conv => whnf); done)); (conv => whnf))
          refine ⟨(s.drop i).take (runS partsT (s.drop i)), (i : Int), congrArg (fun w => [AV.p (PV.str w), AV.p (PV.int .i64 (i : Int))]) hw, hwl, ?_⟩
          cases hwp : wordP ((s.drop i).take (runS partsT (s.drop i))) with
          | none =>
            rw [hwp] at he
            have hct : cutT s = .bad i := by rw [← he]; rfl
            rw [hct] at hk
            conv => whnf
            repeat ((refine And.intro ?_ ?_); (focus ((conv => whnf); done)); (conv => whnf))
            first | ((refine ⟨⟨hsb, rfl⟩, ?_⟩); (conv => whnf); repeat ((refine And.intro ?_ ?_); (focus ((conv => whnf); done)); (conv => whnf))) | skip
            exact hr _ _ _ _ (Wk1.refl _ _ _) rfl hk
          | some q =>
            obtain ⟨kd, v⟩ := q
            rw [hwp] at he
            simp only at he
            conv => whnf
            repeat ((refine And.intro ?_ ?_); (focus ((conv => whnf); done)); (conv => whnf))
            first | ((refine ⟨⟨hsb, rfl⟩, ?_⟩); (conv => whnf); repeat ((refine And.intro ?_ ?_); (focus ((conv => whnf); done)); (conv => whnf))) | skip
            refine ⟨⟨rfl, rfl, rfl, allLt_ok ⟨trivial, rfl⟩⟩, ?_⟩
            conv => whnf
            refine ⟨⟨rfl, rfl, rfl, rfl, ?_, ?_⟩, ?_⟩
            · show (l.length + 1) * 40 ≤ 140737488355328
              omega
            · show l.length + 1 ≤ 9223372036854775807
              omega
            conv => whnf
            refine hle _ _ (Le.cutEnv 3 rfl rfl ⟨rfl, rfl, ?_, trivial⟩ ?_ ?_) (ih ⟨l ++ [⟨kd, v, i, (s.drop i).take (runS partsT (s.drop i))⟩], i + runS partsT (s.drop i), n⟩ (Nat.lt_succ_self _) ⟨?_, ?_, ?_, ?_⟩)
            · exact tok_cl l ⟨kd, v, i, (s.drop i).take (runS partsT (s.drop i))⟩ _ 3 rfl
            · exact ⟨AV.le_refl _, AV.le_refl _, AV.le_refl _, AV.le_of_eq (slr_len _ _), trivial⟩
            · exact ⟨ABlk.le_refl _, ABlk.le_refl _, tokA_snoc l ⟨kd, v, i, (s.drop i).take (runS partsT (s.drop i))⟩ _ rfl, trivial⟩
            · simp only; omega
            · simp only; omega
            · simp only [List.length_append, List.length_cons, List.length_nil]; omega
            · rw [← he, app_cons, List.drop_drop]
      · have h4 : ¬ 0 < runS partsT (s.drop i) := by
          have := of_decide_eq_false h4
          have : ¬ ((i + runS partsT (s.drop i) : Nat) : Int) > (i : Int) := this
          omega
        rw [if_neg h4] at he
        conv => whnf
        refine ⟨(⟨by omega, (by show (i : Int) ≤ (s.length : Int); omega), Int.le_refl _⟩ : (0 : Int) ≤ (i : Int) ∧ (i : Int) ≤ Int.ofNat s.length ∧ Int.ofNat s.length ≤ (s.length : Int)), ?_⟩
        conv => whnf
        have hw : (s.take (Int.toNat (Int.ofNat s.length))).drop (Int.toNat (i : Int)) = s.drop i := by
          have e1 : Int.toNat (Int.ofNat s.length) = s.length := rfl
          rw [e1, Int.toNat_natCast, List.take_length]
        refine ⟨s.drop i, congrArg (fun w => [AV.p (PV.str w)]) hw, ?_, ?_, ?_⟩
        · simp only [List.length_drop]; omega
        · simp only [List.length_drop]; omega
        have hsl : signP (s.drop i) ≤ s.length - i := by
          unfold signP
          split
          · rename_i hpp
            simp only [pairP, Bool.and_eq_true, decide_eq_true_eq, List.length_drop] at hpp
            omega
          · split <;> omega
        generalize hsg : signP (s.drop i) = m at he hsl ⊢
        conv => whnf
        refine two_intro (fun h5 => ?_) (fun h5 => ?_)
        · have h5 : m = 0 := by
            have h5 : ((m : Int) == 0) = true := h5
            have := eq_of_beq h5
            omega
          subst h5
          have hct : cutT s = .bad i := by rw [← he]; rfl
          rw [hct] at hk
          conv => whnf
          exact hr _ _ _ _ (Wk1.refl _ _ _) rfl hk
        · cases m with
          | zero => exact absurd h5 (by simp)
          | succ m =>
          simp only at he
          conv => whnf
          refine ⟨(⟨by omega, ?_, ?_⟩ : (0 : Int) ≤ (i : Int) ∧ (i : Int) ≤ IntKind.i64.wrap ((i : Int) + ((m + 1 : Nat) : Int)) ∧ IntKind.i64.wrap ((i : Int) + ((m + 1 : Nat) : Int)) ≤ (s.length : Int)), ?_⟩
          · rw [w64 (by omega)]; omega
          · rw [w64 (by omega)]; omega
          conv => whnf
          repeat ((refine And.intro ?_ ?_); (focus ((conv => whnf); done)); (conv => whnf))
          have hw2 : (s.take (Int.toNat (IntKind.i64.wrap ((i : Int) + ((m + 1 : Nat) : Int))))).drop (Int.toNat (i : Int)) = (s.drop i).take (m + 1) := by
            rw [w64 (by omega)]
            have e1 : Int.toNat ((i : Int) + ((m + 1 : Nat) : Int)) = i + (m + 1) := by omega
            rw [e1, Int.toNat_natCast, List.drop_take, Nat.add_sub_cancel_left]
          have hcells := congrArg (fun w => [AV.p (.int .i64 3), AV.p (.int .i64 0), AV.p (.int .i64 (i : Int)), AV.p (.str w)]) hw2
          refine ⟨⟨rfl, rfl, rfl, allLt_ok ⟨trivial, rfl⟩⟩, ?_⟩
          conv => whnf
          refine ⟨⟨rfl, rfl, rfl, rfl, ?_, ?_⟩, ?_⟩
          · show (l.length + 1) * 40 ≤ 140737488355328
            omega
          · show l.length + 1 ≤ 9223372036854775807
            omega
          conv => whnf
          repeat ((refine And.intro ?_ ?_); (focus ((conv => whnf); done)); (conv => whnf))
          refine hle _ _ (Le.cutEnv 3 rfl rfl ⟨rfl, rfl, ?_, trivial⟩ ?_ ?_) (ih ⟨l ++ [⟨.sign, 0, i, (s.drop i).take (m + 1)⟩], i + (m + 1), n⟩ (Nat.lt_succ_self _) ⟨?_, ?_, ?_, ?_⟩)
          · exact tok_cl l ⟨.sign, 0, i, (s.drop i).take (m + 1)⟩ _ 3 hcells
          · exact ⟨AV.le_refl _, AV.le_refl _, AV.le_refl _, AV.le_of_eq (slr_len _ _), trivial⟩
          · refine ⟨ABlk.le_refl _, ABlk.le_of_eq ?_, tokA_snoc l ⟨.sign, 0, i, (s.drop i).take (m + 1)⟩ _ hcells, trivial⟩
            show ABlk.box 3 [.p (.int .i64 (IntKind.i64.wrap ((i : Int) + ((m + 1 : Nat) : Int))))] = _
            rw [w64 (by omega)]; rfl
          · simp only; omega
          · simp only; omega
          · simp only [List.length_append, List.length_cons, List.length_nil]; omega
          · rw [← he, app_cons, List.drop_drop]
  · rw [hd2] at h
    have h := of_decide_eq_false h
    obtain rfl : i = s.length := by omega
    rw [List.drop_length] at he
    have hct : cutT s = .ok l := by
      rw [← he]
      cases n <;> simp [cutS, CR.app]
    rw [hct] at hk
    conv => whnf
    refine ⟨⟨rfl, rfl, rfl, allLt_ok ⟨trivial, rfl⟩⟩, ?_⟩
    conv => whnf
    refine ⟨⟨rfl, rfl, rfl, rfl, ?_, ?_⟩, ?_⟩
    · show (l.length + 1) * 40 ≤ 140737488355328
      omega
    · show l.length + 1 ≤ 9223372036854775807
      omega
    conv => whnf
    exact hr _ _ _ _ (Wk1.tup_freeze1 (r := 2) rfl (encs s.length l) (enc_all _ _ _ rfl)) rfl hk
end Go.Proofs.YtkomdppjelnpdaaGreatDoor

namespace Go.AE

/-- some slots of a frame -/
def rst (t : List (Nat × AV)) : List Nat → List (Nat × AV)
  | [] => []
  | d :: l => (d, look t d) :: rst t l
/-- a heap, some blocks of it others -/
def upK (K : List ABlk) : List (Nat × ABlk) → List ABlk
  | [] => K
  | (r, b) :: l => setN (upK K l) r b
def upLe (K : List ABlk) : List (Nat × ABlk) → Prop
  | [] => True
  | (r, b) :: l => (∀ b0, nth K r = some b0 → b0.le b) ∧ upLe K l

theorem subE_append {t a b : List (Nat × AV)} (h : subE t a) (h' : subE t b) : subE t (a ++ b) := by
  induction a with
  | nil => exact h'
  | cons x l ih => exact ⟨h.1, ih h.2⟩
theorem subE_rst (t : List (Nat × AV)) (l : List Nat) : subE t (rst t l) := by
  induction l with
  | nil => trivial
  | cons d l ih => exact ⟨AV.le_refl _, ih⟩
theorem lesK_setN {K K' : List ABlk} (h : lesK K K') : ∀ (r : Nat) (b : ABlk), (∀ b0, nth K r = some b0 → b0.le b) → lesK K (setN K' r b) := by
  induction K generalizing K' with
  | nil =>
    intro r b _
    cases K' with
    | nil => exact h
    | cons a l => exact h.elim
  | cons a l ih =>
    intro r b hb
    cases K' with
    | nil => exact h.elim
    | cons a' l' =>
      cases r with
      | zero => exact ⟨hb a rfl, h.2⟩
      | succ r => exact ⟨h.1, ih h.2 r b hb⟩
theorem lesK_up {K : List ABlk} {l : List (Nat × ABlk)} (h : upLe K l) : lesK K (upK K l) := by
  induction l with
  | nil => exact lesK.refl K
  | cons x l ih => exact lesK_setN (ih h.2) _ _ h.1

theorem loop_up {kb : Nat} {F : AS → (Ex → AS → Prop) → Prop} {Q : Ex → AS → Prop} {t : List (Nat × AV)} {K : List ABlk} {ι : Type} (keep : List Nat) (ts : ι → List (Nat × AV)) (up : ι → List (Nat × ABlk)) (Pre : ι → Prop) (μ : ι → Nat) (i : ι)
    (ht : subE t (ts i)) (hK : upLe K (up i)) (hi : Pre i)
    (h : ∀ (X : AS → Prop), (∀ s s', Le kb s s' → X s' → X s) → ∀ i, Pre i → (∀ j, μ j < μ i → Pre j → X ⟨ts j ++ rst t keep, upK K (up j)⟩) → F ⟨ts i ++ rst t keep, upK K (up i)⟩ (fun e s' => match e with | .norm => X s' | e => Q e s')) :
    LoopW kb F ⟨t, K⟩ Q :=
  loop_by (fun i => ⟨ts i ++ rst t keep, upK K (up i)⟩) Pre μ i (subE_append ht (subE_rst t keep)) (lesK_up hK) hi h

theorem upLe1 {K : List ABlk} {r : Nat} {b0 b : ABlk} (h0 : nth K r = some b0) (h : b0.le b) : ∀ b1, nth K r = some b1 → b1.le b := fun b1 h1 => by
  rw [h0] at h1; injection h1 with h1; rw [← h1]; exact h

end Go.AE
