/-
  The tables of types and functions of the seat, for the layer AE, written by gentab.py (a program of this claim). No statement of the seat is proved here.
  AE, part 9: rules for contracts: weakening, framing, loops. Own metatheory over any program; no statement of the seat is proved here.
  AE, part 10: a nil slice as a row of nothing that may grow; results said in weaker words. Own metatheory over any program; no statement of the seat is proved here.
  DERIVED: THE SHELF's CONTRACTS AT THIS DUMP, IN PLAIN WORDS (tools/lay-plain.mjs out of 'TryzShelf.lean', which tools/lay-shelf.mjs wrote): THE SAME DECLARATIONS UNDER THE SAME NAMES: 'import', 'namespace', 'open', 'def', 'theorem' AND NOTHING ELSE: no command of the shelf's: FOR A HAND-IN. Each laying: the table of numbers ('.._ren') and one theorem, a field a fact of the dump's own or the kernel's comparison; each contract: ONE APPLICATION.
  Library functions as the layer AE meets them: by the shelf's contracts. No statement of the seat is proved here.
-/
import Derived.Test.YtojjkleplnijaaaGreatDoorProg
import Derived.Shelf.Small.Strs
import Derived.Shelf.Strconv.Atoi
import Derived.Shelf.Strconv.Itoa0
import Derived.Shelf.Strconv.Itoa1
import Derived.Shelf.LaysM
import Derived.Shelf.Strconv.Itoa2
import Derived.Shelf.Strconv.Itoa3
import Derived.Shelf.Strconv.AtoiErrFast
import Derived.Shelf.Strconv.ParseIntEmpty
import Derived.Shelf.Strconv.AtoiFail
import Derived.Shelf.Strconv.Clone
import Derived.Shelf.Strconv.SyntaxError
import Derived.Shelf.LaysC
import Derived.Shelf.Strconv.ToError
import Derived.Shelf.Strconv.Lower
import Derived.Shelf.Strconv.ParseUint10
import Derived.Shelf.Strconv.ParseUint10Empty
import Derived.Shelf.Strconv.ParseUint10Any
import Derived.Shelf.Strconv.ParseInt10
import Derived.Shelf.Strconv.AtoiLong
import Derived.Shelf.Strconv.AtoiInnerAll
import Derived.Shelf.Strconv.RangeError
import Derived.Shelf.Strconv.ToErrorRange
import Derived.Shelf.Strconv.AtoiAll
import Derived.Shelf.Strings.Search1
import Derived.Shelf.Strings.Search2
import Derived.Shelf.Strings.Search3
import Derived.Shelf.Strings.Shaped
import Derived.Test.YtojjkleplnijaaaGreatDoorChecked
import Derived.Test.YtojjkleplnijaaaGreatDoorPk3
set_option linter.unusedVariables false
set_option linter.unusedSimpArgs false
namespace Go.Proofs.YtojjkleplnijaaaGreatDoor
open Go.AE
set_option maxRecDepth 100000
noncomputable def Tt : TT TI := (.node (.node (.node (.node (.node (.node (.node (.node .leaf 1 ⟨.func, 1, 8, [.nilf], false⟩ .leaf) 2 ⟨.int .i64, 1, 8, [.int .i64 0], false⟩ (.node .leaf 3 ⟨.int .i64, 1, 8, [.int .i64 0], false⟩ .leaf)) 4 ⟨.bool, 1, 1, [.bool false], false⟩ (.node (.node .leaf 5 ⟨.int .u8, 1, 1, [.int .u8 0], false⟩ .leaf) 6 ⟨.int .u8, 1, 1, [.int .u8 0], false⟩ (.node .leaf 7 ⟨.struct [(0, 2), (1, 3), (2, 4), (3, 6)], 4, 24, [.int .i64 0, .int .i64 0, .bool false, .int .u8 0], true⟩ .leaf))) 8 ⟨.struct [(0, 2), (1, 3), (2, 4), (3, 6)], 4, 24, [.int .i64 0, .int .i64 0, .bool false, .int .u8 0], true⟩ (.node (.node (.node .leaf 9 ⟨.string, 1, 16, [.str []], false⟩ .leaf) 10 ⟨.string, 1, 16, [.str []], false⟩ (.node .leaf 11 ⟨.string, 1, 16, [.str []], false⟩ .leaf)) 12 ⟨.int .u64, 1, 8, [.int .u64 0], false⟩ (.node (.node .leaf 13 ⟨.struct [(0, 9), (1, 12)], 2, 24, [.str [], .int .u64 0], true⟩ .leaf) 14 ⟨.struct [(0, 9), (1, 12)], 2, 24, [.str [], .int .u64 0], true⟩ .leaf))) 15 ⟨.ptr 232, 1, 8, [.nilp], false⟩ (.node (.node (.node (.node .leaf 16 ⟨.ptr 235, 1, 8, [.nilp], false⟩ .leaf) 17 ⟨.ptr 242, 1, 8, [.nilp], false⟩ (.node .leaf 18 ⟨.struct [(0, 17)], 1, 8, [.nilp], true⟩ .leaf)) 19 ⟨.struct [(0, 17)], 1, 8, [.nilp], true⟩ (.node (.node .leaf 20 ⟨.iface, 1, 16, [.nili], false⟩ .leaf) 21 ⟨.int .i32, 1, 4, [.int .i32 0], false⟩ .leaf)) 22 ⟨.slice 61, 1, 24, [.nils], false⟩ (.node (.node (.node .leaf 23 ⟨.struct [(0, 22), (1, 3)], 2, 32, [.nils, .int .i64 0], true⟩ .leaf) 24 ⟨.struct [(0, 22), (1, 3)], 2, 32, [.nils, .int .i64 0], true⟩ (.node .leaf 25 ⟨.func, 1, 8, [.nilf], false⟩ .leaf)) 26 ⟨.func, 1, 8, [.nilf], false⟩ (.node (.node .leaf 27 ⟨.int .i64, 1, 8, [.int .i64 0], false⟩ .leaf) 29 ⟨.func, 1, 8, [.nilf], false⟩ .leaf)))) 30 ⟨.func, 1, 8, [.nilf], false⟩ (.node (.node (.node (.node (.node .leaf 31 ⟨.func, 1, 8, [.nilf], false⟩ .leaf) 32 ⟨.func, 1, 8, [.nilf], false⟩ (.node .leaf 33 ⟨.func, 1, 8, [.nilf], false⟩ .leaf)) 34 ⟨.func, 1, 8, [.nilf], false⟩ (.node (.node .leaf 35 ⟨.func, 1, 8, [.nilf], false⟩ .leaf) 36 ⟨.slice 9, 1, 24, [.nils], false⟩ .leaf)) 37 ⟨.func, 1, 8, [.nilf], false⟩ (.node (.node (.node .leaf 38 ⟨.func, 1, 8, [.nilf], false⟩ .leaf) 39 ⟨.slice 53, 1, 24, [.nils], false⟩ (.node .leaf 40 ⟨.slice 3, 1, 24, [.nils], false⟩ .leaf)) 41 ⟨.struct [(0, 39), (1, 40)], 2, 48, [.nils, .nils], true⟩ (.node (.node .leaf 42 ⟨.struct [(0, 39), (1, 40)], 2, 48, [.nils, .nils], true⟩ .leaf) 44 ⟨.func, 1, 8, [.nilf], false⟩ .leaf))) 45 ⟨.ptr 50, 1, 8, [.nilp], false⟩ (.node (.node (.node (.node .leaf 47 ⟨.func, 1, 8, [.nilf], false⟩ .leaf) 48 ⟨.slice 54, 1, 24, [.nils], false⟩ (.node .leaf 49 ⟨.struct [(0, 48), (1, 40)], 2, 48, [.nils, .nils], true⟩ .leaf)) 50 ⟨.struct [(0, 48), (1, 40)], 2, 48, [.nils, .nils], true⟩ (.node (.node .leaf 51 ⟨.func, 1, 8, [.nilf], false⟩ .leaf) 52 ⟨.struct [(0, 3), (1, 3), (2, 3), (3, 40), (4, 3)], 5, 56, [.int .i64 0, .int .i64 0, .int .i64 0, .nils, .int .i64 0], true⟩ .leaf)) 53 ⟨.struct [(0, 3), (1, 3), (2, 3), (3, 40), (4, 3)], 5, 56, [.int .i64 0, .int .i64 0, .int .i64 0, .nils, .int .i64 0], true⟩ (.node (.node (.node .leaf 54 ⟨.struct [(0, 3), (1, 3), (2, 3), (3, 40), (4, 3)], 5, 56, [.int .i64 0, .int .i64 0, .int .i64 0, .nils, .int .i64 0], true⟩ .leaf) 55 ⟨.func, 1, 8, [.nilf], false⟩ (.node .leaf 56 ⟨.func, 1, 8, [.nilf], false⟩ .leaf)) 57 ⟨.func, 1, 8, [.nilf], false⟩ (.node (.node .leaf 59 ⟨.func, 1, 8, [.nilf], false⟩ .leaf) 60 ⟨.struct [(0, 3), (1, 3), (2, 3), (3, 9), (4, 40)], 5, 64, [.int .i64 0, .int .i64 0, .int .i64 0, .str [], .nils], true⟩ .leaf))))) 61 ⟨.struct [(0, 3), (1, 3), (2, 3), (3, 9), (4, 40)], 5, 64, [.int .i64 0, .int .i64 0, .int .i64 0, .str [], .nils], true⟩ (.node (.node (.node (.node (.node (.node .leaf 62 ⟨.ptr 72, 1, 8, [.nilp], false⟩ .leaf) 63 ⟨.func, 1, 8, [.nilf], false⟩ (.node .leaf 64 ⟨.func, 1, 8, [.nilf], false⟩ .leaf)) 65 ⟨.func, 1, 8, [.nilf], false⟩ (.node (.node .leaf 66 ⟨.func, 1, 8, [.nilf], false⟩ .leaf) 67 ⟨.func, 1, 8, [.nilf], false⟩ .leaf)) 68 ⟨.func, 1, 8, [.nilf], false⟩ (.node (.node (.node .leaf 69 ⟨.map 9 3, 1, 8, [.nilm], false⟩ .leaf) 70 ⟨.map 3 69, 1, 8, [.nilm], false⟩ (.node .leaf 71 ⟨.struct [(0, 24), (2, 40), (3, 69), (4, 69), (5, 70)], 6, 80, [.nils, .int .i64 0, .nils, .nilm, .nilm, .nilm], true⟩ .leaf)) 72 ⟨.struct [(0, 24), (2, 40), (3, 69), (4, 69), (5, 70)], 6, 80, [.nils, .int .i64 0, .nils, .nilm, .nilm, .nilm], true⟩ (.node (.node .leaf 73 ⟨.func, 1, 8, [.nilf], false⟩ .leaf) 74 ⟨.func, 1, 8, [.nilf], false⟩ .leaf))) 75 ⟨.func, 1, 8, [.nilf], false⟩ (.node (.node (.node (.node .leaf 76 ⟨.func, 1, 8, [.nilf], false⟩ .leaf) 77 ⟨.func, 1, 8, [.nilf], false⟩ (.node .leaf 78 ⟨.ptr 82, 1, 8, [.nilp], false⟩ .leaf)) 79 ⟨.ptr 42, 1, 8, [.nilp], false⟩ (.node (.node .leaf 80 ⟨.map 3 3, 1, 8, [.nilm], false⟩ .leaf) 81 ⟨.struct [(0, 24), (2, 79), (3, 80), (4, 3)], 5, 56, [.nils, .int .i64 0, .nilp, .nilm, .int .i64 0], true⟩ .leaf)) 82 ⟨.struct [(0, 24), (2, 79), (3, 80), (4, 3)], 5, 56, [.nils, .int .i64 0, .nilp, .nilm, .int .i64 0], true⟩ (.node (.node (.node .leaf 83 ⟨.func, 1, 8, [.nilf], false⟩ .leaf) 84 ⟨.func, 1, 8, [.nilf], false⟩ (.node .leaf 85 ⟨.func, 1, 8, [.nilf], false⟩ .leaf)) 86 ⟨.func, 1, 8, [.nilf], false⟩ (.node (.node .leaf 87 ⟨.func, 1, 8, [.nilf], false⟩ .leaf) 88 ⟨.func, 1, 8, [.nilf], false⟩ .leaf)))) 89 ⟨.func, 1, 8, [.nilf], false⟩ (.node (.node (.node (.node (.node .leaf 90 ⟨.func, 1, 8, [.nilf], false⟩ .leaf) 91 ⟨.func, 1, 8, [.nilf], false⟩ (.node .leaf 92 ⟨.func, 1, 8, [.nilf], false⟩ .leaf)) 93 ⟨.func, 1, 8, [.nilf], false⟩ (.node (.node .leaf 94 ⟨.func, 1, 8, [.nilf], false⟩ .leaf) 95 ⟨.func, 1, 8, [.nilf], false⟩ .leaf)) 96 ⟨.slice 4, 1, 24, [.nils], false⟩ (.node (.node (.node .leaf 98 ⟨.func, 1, 8, [.nilf], false⟩ .leaf) 99 ⟨.func, 1, 8, [.nilf], false⟩ (.node .leaf 100 ⟨.func, 1, 8, [.nilf], false⟩ .leaf)) 101 ⟨.ptr 129, 1, 8, [.nilp], false⟩ (.node (.node .leaf 102 ⟨.func, 1, 8, [.nilf], false⟩ .leaf) 103 ⟨.func, 1, 8, [.nilf], false⟩ .leaf))) 105 ⟨.func, 1, 8, [.nilf], false⟩ (.node (.node (.node (.node .leaf 106 ⟨.func, 1, 8, [.nilf], false⟩ .leaf) 107 ⟨.func, 1, 8, [.nilf], false⟩ (.node .leaf 108 ⟨.func, 1, 8, [.nilf], false⟩ .leaf)) 109 ⟨.func, 1, 8, [.nilf], false⟩ (.node (.node .leaf 110 ⟨.func, 1, 8, [.nilf], false⟩ .leaf) 111 ⟨.func, 1, 8, [.nilf], false⟩ .leaf)) 112 ⟨.func, 1, 8, [.nilf], false⟩ (.node (.node (.node .leaf 113 ⟨.func, 1, 8, [.nilf], false⟩ .leaf) 114 ⟨.func, 1, 8, [.nilf], false⟩ (.node .leaf 115 ⟨.int .u64, 1, 8, [.int .u64 0], false⟩ .leaf)) 116 ⟨.func, 1, 8, [.nilf], false⟩ (.node (.node .leaf 117 ⟨.func, 1, 8, [.nilf], false⟩ .leaf) 118 ⟨.func, 1, 8, [.nilf], false⟩ .leaf)))))) 119 ⟨.func, 1, 8, [.nilf], false⟩ (.node (.node (.node (.node (.node (.node (.node .leaf 120 ⟨.func, 1, 8, [.nilf], false⟩ .leaf) 121 ⟨.func, 1, 8, [.nilf], false⟩ (.node .leaf 122 ⟨.slice 131, 1, 24, [.nils], false⟩ .leaf)) 124 ⟨.func, 1, 8, [.nilf], false⟩ (.node (.node .leaf 125 ⟨.struct [(0, 3), (1, 27)], 2, 16, [.int .i64 0, .int .i64 0], true⟩ .leaf) 126 ⟨.struct [(0, 3), (1, 27)], 2, 16, [.int .i64 0, .int .i64 0], true⟩ .leaf)) 128 ⟨.struct [(0, 122), (1, 22), (2, 3), (3, 3)], 4, 64, [.nils, .nils, .int .i64 0, .int .i64 0], true⟩ (.node (.node (.node .leaf 129 ⟨.struct [(0, 122), (1, 22), (2, 3), (3, 3)], 4, 64, [.nils, .nils, .int .i64 0, .int .i64 0], true⟩ .leaf) 130 ⟨.struct [(0, 3), (1, 3), (2, 3), (3, 9)], 4, 40, [.int .i64 0, .int .i64 0, .int .i64 0, .str []], true⟩ (.node .leaf 131 ⟨.struct [(0, 3), (1, 3), (2, 3), (3, 9)], 4, 40, [.int .i64 0, .int .i64 0, .int .i64 0, .str []], true⟩ .leaf)) 132 ⟨.func, 1, 8, [.nilf], false⟩ (.node (.node .leaf 133 ⟨.func, 1, 8, [.nilf], false⟩ .leaf) 135 ⟨.func, 1, 8, [.nilf], false⟩ .leaf))) 136 ⟨.func, 1, 8, [.nilf], false⟩ (.node (.node (.node (.node .leaf 137 ⟨.func, 1, 8, [.nilf], false⟩ .leaf) 138 ⟨.func, 1, 8, [.nilf], false⟩ (.node .leaf 139 ⟨.func, 1, 8, [.nilf], false⟩ .leaf)) 140 ⟨.func, 1, 8, [.nilf], false⟩ (.node (.node .leaf 141 ⟨.func, 1, 8, [.nilf], false⟩ .leaf) 142 ⟨.func, 1, 8, [.nilf], false⟩ .leaf)) 143 ⟨.func, 1, 8, [.nilf], false⟩ (.node (.node (.node .leaf 144 ⟨.func, 1, 8, [.nilf], false⟩ .leaf) 145 ⟨.func, 1, 8, [.nilf], false⟩ (.node .leaf 146 ⟨.func, 1, 8, [.nilf], false⟩ .leaf)) 147 ⟨.int .i64, 1, 8, [.int .i64 0], false⟩ (.node (.node .leaf 149 ⟨.func, 1, 8, [.nilf], false⟩ .leaf) 150 ⟨.func, 1, 8, [.nilf], false⟩ .leaf)))) 151 ⟨.func, 1, 8, [.nilf], false⟩ (.node (.node (.node (.node (.node .leaf 152 ⟨.func, 1, 8, [.nilf], false⟩ .leaf) 153 ⟨.func, 1, 8, [.nilf], false⟩ (.node .leaf 154 ⟨.int .u32, 1, 4, [.int .u32 0], false⟩ .leaf)) 155 ⟨.func, 1, 8, [.nilf], false⟩ (.node (.node .leaf 156 ⟨.int .u64, 1, 8, [.int .u64 0], false⟩ .leaf) 157 ⟨.func, 1, 8, [.nilf], false⟩ .leaf)) 158 ⟨.func, 1, 8, [.nilf], false⟩ (.node (.node (.node .leaf 159 ⟨.func, 1, 8, [.nilf], false⟩ .leaf) 160 ⟨.func, 1, 8, [.nilf], false⟩ (.node .leaf 161 ⟨.func, 1, 8, [.nilf], false⟩ .leaf)) 162 ⟨.func, 1, 8, [.nilf], false⟩ (.node (.node .leaf 163 ⟨.func, 1, 8, [.nilf], false⟩ .leaf) 165 ⟨.func, 1, 8, [.nilf], false⟩ .leaf))) 166 ⟨.func, 1, 8, [.nilf], false⟩ (.node (.node (.node (.node .leaf 167 ⟨.func, 1, 8, [.nilf], false⟩ .leaf) 168 ⟨.func, 1, 8, [.nilf], false⟩ (.node .leaf 169 ⟨.func, 1, 8, [.nilf], false⟩ .leaf)) 170 ⟨.func, 1, 8, [.nilf], false⟩ (.node (.node .leaf 172 ⟨.func, 1, 8, [.nilf], false⟩ .leaf) 173 ⟨.func, 1, 8, [.nilf], false⟩ .leaf)) 174 ⟨.func, 1, 8, [.nilf], false⟩ (.node (.node (.node .leaf 175 ⟨.func, 1, 8, [.nilf], false⟩ .leaf) 176 ⟨.int .u64, 1, 8, [.int .u64 0], false⟩ (.node .leaf 177 ⟨.func, 1, 8, [.nilf], false⟩ .leaf)) 178 ⟨.func, 1, 8, [.nilf], false⟩ (.node (.node .leaf 179 ⟨.func, 1, 8, [.nilf], false⟩ .leaf) 180 ⟨.ptr 3, 1, 8, [.nilp], false⟩ .leaf))))) 181 ⟨.func, 1, 8, [.nilf], false⟩ (.node (.node (.node (.node (.node (.node .leaf 182 ⟨.func, 1, 8, [.nilf], false⟩ .leaf) 183 ⟨.func, 1, 8, [.nilf], false⟩ (.node .leaf 184 ⟨.iface, 1, 16, [.nili], false⟩ .leaf)) 185 ⟨.iface, 1, 16, [.nili], false⟩ (.node (.node .leaf 187 ⟨.func, 1, 8, [.nilf], false⟩ .leaf) 188 ⟨.func, 1, 8, [.nilf], false⟩ .leaf)) 189 ⟨.func, 1, 8, [.nilf], false⟩ (.node (.node (.node .leaf 190 ⟨.func, 1, 8, [.nilf], false⟩ .leaf) 191 ⟨.slice 5, 1, 24, [.nils], false⟩ (.node .leaf 192 ⟨.func, 1, 8, [.nilf], false⟩ .leaf)) 193 ⟨.ptr 176, 1, 8, [.nilp], false⟩ (.node (.node .leaf 195 ⟨.func, 1, 8, [.nilf], false⟩ .leaf) 196 ⟨.func, 1, 8, [.nilf], false⟩ .leaf))) 197 ⟨.func, 1, 8, [.nilf], false⟩ (.node (.node (.node (.node .leaf 198 ⟨.func, 1, 8, [.nilf], false⟩ .leaf) 199 ⟨.int .i64, 1, 8, [.int .i64 0], false⟩ (.node .leaf 201 ⟨.func, 1, 8, [.nilf], false⟩ .leaf)) 202 ⟨.ptr 214, 1, 8, [.nilp], false⟩ (.node (.node .leaf 203 ⟨.func, 1, 8, [.nilf], false⟩ .leaf) 204 ⟨.func, 1, 8, [.nilf], false⟩ .leaf)) 205 ⟨.func, 1, 8, [.nilf], false⟩ (.node (.node (.node .leaf 206 ⟨.func, 1, 8, [.nilf], false⟩ .leaf) 207 ⟨.func, 1, 8, [.nilf], false⟩ (.node .leaf 209 ⟨.func, 1, 8, [.nilf], false⟩ .leaf)) 211 ⟨.func, 1, 8, [.nilf], false⟩ (.node (.node .leaf 212 ⟨.func, 1, 8, [.nilf], false⟩ .leaf) 213 ⟨.struct [(0, 9), (1, 9), (2, 185)], 3, 48, [.str [], .str [], .nili], true⟩ .leaf)))) 214 ⟨.struct [(0, 9), (1, 9), (2, 185)], 3, 48, [.str [], .str [], .nili], true⟩ (.node (.node (.node (.node (.node .leaf 215 ⟨.func, 1, 8, [.nilf], false⟩ .leaf) 216 ⟨.array 24 5, 24, 24, [.int .u8 0, .int .u8 0, .int .u8 0, .int .u8 0, .int .u8 0, .int .u8 0, .int .u8 0, .int .u8 0, .int .u8 0, .int .u8 0, .int .u8 0, .int .u8 0, .int .u8 0, .int .u8 0, .int .u8 0, .int .u8 0, .int .u8 0, .int .u8 0, .int .u8 0, .int .u8 0, .int .u8 0, .int .u8 0, .int .u8 0, .int .u8 0], true⟩ (.node .leaf 217 ⟨.func, 1, 8, [.nilf], false⟩ .leaf)) 219 ⟨.func, 1, 8, [.nilf], false⟩ (.node (.node .leaf 220 ⟨.func, 1, 8, [.nilf], false⟩ .leaf) 221 ⟨.ptr 5, 1, 8, [.nilp], false⟩ .leaf)) 222 ⟨.ptr 224, 1, 8, [.nilp], false⟩ (.node (.node (.node .leaf 223 ⟨.struct [(0, 9)], 1, 16, [.str []], true⟩ .leaf) 224 ⟨.struct [(0, 9)], 1, 16, [.str []], true⟩ (.node .leaf 225 ⟨.func, 1, 8, [.nilf], false⟩ .leaf)) 226 ⟨.array 20 156, 20, 160, [.int .u64 0, .int .u64 0, .int .u64 0, .int .u64 0, .int .u64 0, .int .u64 0, .int .u64 0, .int .u64 0, .int .u64 0, .int .u64 0, .int .u64 0, .int .u64 0, .int .u64 0, .int .u64 0, .int .u64 0, .int .u64 0, .int .u64 0, .int .u64 0, .int .u64 0, .int .u64 0], true⟩ (.node (.node .leaf 228 ⟨.array 32 5, 32, 32, [.int .u8 0, .int .u8 0, .int .u8 0, .int .u8 0, .int .u8 0, .int .u8 0, .int .u8 0, .int .u8 0, .int .u8 0, .int .u8 0, .int .u8 0, .int .u8 0, .int .u8 0, .int .u8 0, .int .u8 0, .int .u8 0, .int .u8 0, .int .u8 0, .int .u8 0, .int .u8 0, .int .u8 0, .int .u8 0, .int .u8 0, .int .u8 0, .int .u8 0, .int .u8 0, .int .u8 0, .int .u8 0, .int .u8 0, .int .u8 0, .int .u8 0, .int .u8 0], true⟩ .leaf) 229 ⟨.array 64 5, 64, 64, [.int .u8 0, .int .u8 0, .int .u8 0, .int .u8 0, .int .u8 0, .int .u8 0, .int .u8 0, .int .u8 0, .int .u8 0, .int .u8 0, .int .u8 0, .int .u8 0, .int .u8 0, .int .u8 0, .int .u8 0, .int .u8 0, .int .u8 0, .int .u8 0, .int .u8 0, .int .u8 0, .int .u8 0, .int .u8 0, .int .u8 0, .int .u8 0, .int .u8 0, .int .u8 0, .int .u8 0, .int .u8 0, .int .u8 0, .int .u8 0, .int .u8 0, .int .u8 0, .int .u8 0, .int .u8 0, .int .u8 0, .int .u8 0, .int .u8 0, .int .u8 0, .int .u8 0, .int .u8 0, .int .u8 0, .int .u8 0, .int .u8 0, .int .u8 0, .int .u8 0, .int .u8 0, .int .u8 0, .int .u8 0, .int .u8 0, .int .u8 0, .int .u8 0, .int .u8 0, .int .u8 0, .int .u8 0, .int .u8 0, .int .u8 0, .int .u8 0, .int .u8 0, .int .u8 0, .int .u8 0, .int .u8 0, .int .u8 0, .int .u8 0, .int .u8 0], true⟩ .leaf))) 230 ⟨.func, 1, 8, [.nilf], false⟩ (.node (.node (.node (.node .leaf 231 ⟨.struct [(0, 17), (1, 17), (2, 17), (3, 9)], 4, 40, [.nilp, .nilp, .nilp, .str []], true⟩ .leaf) 232 ⟨.struct [(0, 17), (1, 17), (2, 17), (3, 9)], 4, 40, [.nilp, .nilp, .nilp, .str []], true⟩ (.node .leaf 233 ⟨.array 0 16, 0, 0, [], true⟩ .leaf)) 234 ⟨.struct [(0, 233)], 0, 0, [], true⟩ (.node (.node .leaf 235 ⟨.struct [(0, 233)], 0, 0, [], true⟩ .leaf) 236 ⟨.int .u8, 1, 1, [.int .u8 0], false⟩ .leaf)) 237 ⟨.int .u8, 1, 1, [.int .u8 0], false⟩ (.node (.node (.node .leaf 238 ⟨.func, 1, 8, [.nilf], false⟩ .leaf) 239 ⟨.int .i32, 1, 4, [.int .i32 0], false⟩ (.node .leaf 240 ⟨.int .i32, 1, 4, [.int .i32 0], false⟩ .leaf)) 241 ⟨.struct [(0, 12), (1, 12), (2, 154), (3, 236), (4, 5), (5, 5), (6, 237), (7, 238), (8, 221), (9, 239), (10, 240)], 11, 48, [.int .u64 0, .int .u64 0, .int .u32 0, .int .u8 0, .int .u8 0, .int .u8 0, .int .u8 0, .nilf, .nilp, .int .i32 0, .int .i32 0], true⟩ (.node (.node .leaf 242 ⟨.struct [(0, 12), (1, 12), (2, 154), (3, 236), (4, 5), (5, 5), (6, 237), (7, 238), (8, 221), (9, 239), (10, 240)], 11, 48, [.int .u64 0, .int .u64 0, .int .u32 0, .int .u8 0, .int .u8 0, .int .u8 0, .int .u8 0, .nilf, .nilp, .int .i32 0, .int .i32 0], true⟩ .leaf) 243 ⟨.other, 1, 8, [.nilp], false⟩ .leaf)))))))
noncomputable def Tf : TT Func := (.node (.node (.node (.node (.node (.node (.node (.node (.node .leaf 0 Tryz.f0 .leaf) 1 Tryz.f1 .leaf) 2 Tryz.f2 (.node .leaf 3 Tryz.f3 .leaf)) 4 Tryz.f4 (.node (.node (.node .leaf 5 Tryz.f5 .leaf) 6 Tryz.f6 .leaf) 7 Tryz.f7 (.node .leaf 8 Tryz.f8 .leaf))) 9 Tryz.f9 (.node (.node (.node (.node .leaf 10 Tryz.f10 .leaf) 11 Tryz.f11 .leaf) 12 Tryz.f12 (.node .leaf 13 Tryz.f13 .leaf)) 14 Tryz.f14 (.node (.node .leaf 15 Tryz.f15 .leaf) 16 Tryz.f16 (.node .leaf 17 Tryz.f17 .leaf)))) 18 Tryz.f18 (.node (.node (.node (.node (.node .leaf 19 Tryz.f19 .leaf) 20 Tryz.f20 .leaf) 21 Tryz.f21 (.node .leaf 22 Tryz.f22 .leaf)) 23 Tryz.f23 (.node (.node (.node .leaf 24 Tryz.f24 .leaf) 25 Tryz.f25 .leaf) 26 Tryz.f26 (.node .leaf 27 Tryz.f27 .leaf))) 28 Tryz.f28 (.node (.node (.node (.node .leaf 29 Tryz.f29 .leaf) 30 Tryz.f30 .leaf) 31 Tryz.f31 (.node .leaf 32 Tryz.f32 .leaf)) 33 Tryz.f33 (.node (.node .leaf 34 Tryz.f34 .leaf) 35 Tryz.f35 (.node .leaf 36 Tryz.f36 .leaf))))) 37 Tryz.f37 (.node (.node (.node (.node (.node (.node .leaf 38 Tryz.f38 .leaf) 39 Tryz.f39 .leaf) 40 Tryz.f40 (.node .leaf 41 Tryz.f41 .leaf)) 42 Tryz.f42 (.node (.node (.node .leaf 43 Tryz.f43 .leaf) 44 Tryz.f44 .leaf) 45 Tryz.f45 (.node .leaf 46 Tryz.f46 .leaf))) 47 Tryz.f47 (.node (.node (.node (.node .leaf 48 Tryz.f48 .leaf) 49 Tryz.f49 .leaf) 50 Tryz.f50 (.node .leaf 51 Tryz.f51 .leaf)) 52 Tryz.f52 (.node (.node .leaf 53 Tryz.f53 .leaf) 54 Tryz.f54 (.node .leaf 55 Tryz.f55 .leaf)))) 56 Tryz.f56 (.node (.node (.node (.node (.node .leaf 57 Tryz.f57 .leaf) 58 Tryz.f58 .leaf) 59 Tryz.f59 (.node .leaf 60 Tryz.f60 .leaf)) 61 Tryz.f61 (.node (.node .leaf 62 Tryz.f62 .leaf) 63 Tryz.f63 (.node .leaf 64 Tryz.f64 .leaf))) 65 Tryz.f65 (.node (.node (.node (.node .leaf 66 Tryz.f66 .leaf) 67 Tryz.f67 .leaf) 68 Tryz.f68 (.node .leaf 69 Tryz.f69 .leaf)) 70 Tryz.f70 (.node (.node .leaf 71 Tryz.f71 .leaf) 72 Tryz.f72 (.node .leaf 73 Tryz.f73 .leaf)))))) 74 Tryz.f74 (.node (.node (.node (.node (.node (.node (.node .leaf 75 Tryz.f75 .leaf) 76 Tryz.f76 .leaf) 77 Tryz.f77 (.node .leaf 78 Tryz.f78 .leaf)) 79 Tryz.f79 (.node (.node (.node .leaf 80 Tryz.f80 .leaf) 81 Tryz.f81 .leaf) 82 Tryz.f82 (.node .leaf 83 Tryz.f83 .leaf))) 84 Tryz.f84 (.node (.node (.node (.node .leaf 85 Tryz.f85 .leaf) 86 Tryz.f86 .leaf) 87 Tryz.f87 (.node .leaf 88 Tryz.f88 .leaf)) 89 Tryz.f89 (.node (.node .leaf 90 Tryz.f90 .leaf) 91 Tryz.f91 (.node .leaf 92 Tryz.f92 .leaf)))) 93 Tryz.f93 (.node (.node (.node (.node (.node .leaf 94 Tryz.f94 .leaf) 95 Tryz.f95 .leaf) 96 Tryz.f96 (.node .leaf 97 Tryz.f97 .leaf)) 98 Tryz.f98 (.node (.node (.node .leaf 99 Tryz.f99 .leaf) 100 Tryz.f100 .leaf) 101 Tryz.f101 (.node .leaf 102 Tryz.f102 .leaf))) 103 Tryz.f103 (.node (.node (.node (.node .leaf 104 Tryz.f104 .leaf) 105 Tryz.f105 .leaf) 106 Tryz.f106 (.node .leaf 107 Tryz.f107 .leaf)) 108 Tryz.f108 (.node (.node .leaf 109 Tryz.f109 .leaf) 110 Tryz.f110 (.node .leaf 111 Tryz.f111 .leaf))))) 112 Tryz.f112 (.node (.node (.node (.node (.node (.node .leaf 113 Tryz.f113 .leaf) 114 Tryz.f114 .leaf) 115 Tryz.f115 (.node .leaf 116 Tryz.f116 .leaf)) 117 Tryz.f117 (.node (.node (.node .leaf 118 Tryz.f118 .leaf) 119 Tryz.f119 .leaf) 120 Tryz.f120 (.node .leaf 121 Tryz.f121 .leaf))) 122 Tryz.f122 (.node (.node (.node (.node .leaf 123 Tryz.f123 .leaf) 124 Tryz.f124 .leaf) 125 Tryz.f125 (.node .leaf 126 Tryz.f126 .leaf)) 127 Tryz.f127 (.node (.node .leaf 128 Tryz.f128 .leaf) 129 Tryz.f129 (.node .leaf 130 Tryz.f130 .leaf)))) 131 Tryz.f131 (.node (.node (.node (.node (.node .leaf 132 Tryz.f132 .leaf) 133 Tryz.f133 .leaf) 134 Tryz.f134 (.node .leaf 135 Tryz.f135 .leaf)) 136 Tryz.f136 (.node (.node .leaf 137 Tryz.f137 .leaf) 138 Tryz.f138 (.node .leaf 139 Tryz.f139 .leaf))) 140 Tryz.f140 (.node (.node (.node (.node .leaf 141 Tryz.f141 .leaf) 142 Tryz.f142 .leaf) 143 Tryz.f143 (.node .leaf 144 Tryz.f144 .leaf)) 145 Tryz.f145 (.node (.node .leaf 146 Tryz.f146 .leaf) 147 Tryz.f147 (.node .leaf 148 Tryz.f148 .leaf))))))) 149 Tryz.f149 (.node (.node (.node (.node (.node (.node (.node (.node .leaf 150 Tryz.f150 .leaf) 151 Tryz.f151 .leaf) 152 Tryz.f152 (.node .leaf 153 Tryz.f153 .leaf)) 154 Tryz.f154 (.node (.node (.node .leaf 155 Tryz.f155 .leaf) 156 Tryz.f156 .leaf) 157 Tryz.f157 (.node .leaf 158 Tryz.f158 .leaf))) 159 Tryz.f159 (.node (.node (.node (.node .leaf 160 Tryz.f160 .leaf) 161 Tryz.f161 .leaf) 162 Tryz.f162 (.node .leaf 163 Tryz.f163 .leaf)) 164 Tryz.f164 (.node (.node .leaf 165 Tryz.f165 .leaf) 166 Tryz.f166 (.node .leaf 167 Tryz.f167 .leaf)))) 168 Tryz.f168 (.node (.node (.node (.node (.node .leaf 169 Tryz.f169 .leaf) 170 Tryz.f170 .leaf) 171 Tryz.f171 (.node .leaf 172 Tryz.f172 .leaf)) 173 Tryz.f173 (.node (.node (.node .leaf 174 Tryz.f174 .leaf) 175 Tryz.f175 .leaf) 176 Tryz.f176 (.node .leaf 177 Tryz.f177 .leaf))) 178 Tryz.f178 (.node (.node (.node (.node .leaf 179 Tryz.f179 .leaf) 180 Tryz.f180 .leaf) 181 Tryz.f181 (.node .leaf 182 Tryz.f182 .leaf)) 183 Tryz.f183 (.node (.node .leaf 184 Tryz.f184 .leaf) 185 Tryz.f185 (.node .leaf 186 Tryz.f186 .leaf))))) 187 Tryz.f187 (.node (.node (.node (.node (.node (.node .leaf 188 Tryz.f188 .leaf) 189 Tryz.f189 .leaf) 190 Tryz.f190 (.node .leaf 191 Tryz.f191 .leaf)) 192 Tryz.f192 (.node (.node (.node .leaf 193 Tryz.f193 .leaf) 194 Tryz.f194 .leaf) 195 Tryz.f195 (.node .leaf 196 Tryz.f196 .leaf))) 197 Tryz.f197 (.node (.node (.node (.node .leaf 198 Tryz.f198 .leaf) 199 Tryz.f199 .leaf) 200 Tryz.f200 (.node .leaf 201 Tryz.f201 .leaf)) 202 Tryz.f202 (.node (.node .leaf 203 Tryz.f203 .leaf) 204 Tryz.f204 (.node .leaf 205 Tryz.f205 .leaf)))) 206 Tryz.f206 (.node (.node (.node (.node (.node .leaf 207 Tryz.f207 .leaf) 208 Tryz.f208 .leaf) 209 Tryz.f209 (.node .leaf 210 Tryz.f210 .leaf)) 211 Tryz.f211 (.node (.node .leaf 212 Tryz.f212 .leaf) 213 Tryz.f213 (.node .leaf 214 Tryz.f214 .leaf))) 215 Tryz.f215 (.node (.node (.node (.node .leaf 216 Tryz.f216 .leaf) 217 Tryz.f217 .leaf) 218 Tryz.f218 (.node .leaf 219 Tryz.f219 .leaf)) 220 Tryz.f220 (.node (.node .leaf 221 Tryz.f221 .leaf) 222 Tryz.f222 (.node .leaf 223 Tryz.f223 .leaf)))))) 224 Tryz.f224 (.node (.node (.node (.node (.node (.node (.node .leaf 225 Tryz.f225 .leaf) 226 Tryz.f226 .leaf) 227 Tryz.f227 (.node .leaf 228 Tryz.f228 .leaf)) 229 Tryz.f229 (.node (.node (.node .leaf 230 Tryz.f230 .leaf) 231 Tryz.f231 .leaf) 232 Tryz.f232 (.node .leaf 233 Tryz.f233 .leaf))) 234 Tryz.f234 (.node (.node (.node (.node .leaf 235 Tryz.f235 .leaf) 236 Tryz.f236 .leaf) 237 Tryz.f237 (.node .leaf 238 Tryz.f238 .leaf)) 239 Tryz.f239 (.node (.node .leaf 240 Tryz.f240 .leaf) 241 Tryz.f241 (.node .leaf 242 Tryz.f242 .leaf)))) 243 Tryz.f243 (.node (.node (.node (.node (.node .leaf 244 Tryz.f244 .leaf) 245 Tryz.f245 .leaf) 246 Tryz.f246 (.node .leaf 247 Tryz.f247 .leaf)) 248 Tryz.f248 (.node (.node (.node .leaf 249 Tryz.f249 .leaf) 250 Tryz.f250 .leaf) 251 Tryz.f251 (.node .leaf 252 Tryz.f252 .leaf))) 253 Tryz.f253 (.node (.node (.node (.node .leaf 254 Tryz.f254 .leaf) 255 Tryz.f255 .leaf) 256 Tryz.f256 (.node .leaf 257 Tryz.f257 .leaf)) 258 Tryz.f258 (.node (.node .leaf 259 Tryz.f259 .leaf) 260 Tryz.f260 (.node .leaf 261 Tryz.f261 .leaf))))) 262 Tryz.f262 (.node (.node (.node (.node (.node (.node .leaf 263 Tryz.f263 .leaf) 264 Tryz.f264 .leaf) 265 Tryz.f265 (.node .leaf 266 Tryz.f266 .leaf)) 267 Tryz.f267 (.node (.node (.node .leaf 268 Tryz.f268 .leaf) 269 Tryz.f269 .leaf) 270 Tryz.f270 (.node .leaf 271 Tryz.f271 .leaf))) 272 Tryz.f272 (.node (.node (.node (.node .leaf 273 Tryz.f273 .leaf) 274 Tryz.f274 .leaf) 275 Tryz.f275 (.node .leaf 276 Tryz.f276 .leaf)) 277 Tryz.f277 (.node (.node .leaf 278 Tryz.f278 .leaf) 279 Tryz.f279 (.node .leaf 280 Tryz.f280 .leaf)))) 281 Tryz.f281 (.node (.node (.node (.node (.node .leaf 282 Tryz.f282 .leaf) 283 Tryz.f283 .leaf) 284 Tryz.f284 (.node .leaf 285 Tryz.f285 .leaf)) 286 Tryz.f286 (.node (.node .leaf 287 Tryz.f287 .leaf) 288 Tryz.f288 (.node .leaf 289 Tryz.f289 .leaf))) 290 Tryz.f290 (.node (.node (.node (.node .leaf 291 Tryz.f291 .leaf) 292 Tryz.f292 .leaf) 293 Tryz.f293 (.node .leaf 294 Tryz.f294 .leaf)) 295 Tryz.f295 (.node (.node .leaf 296 Tryz.f296 .leaf) 297 Tryz.f297 (.node .leaf 298 Tryz.f298 .leaf))))))))
noncomputable def T0 : Tab := ⟨Tt, Tf⟩
theorem t_ok : Tt.all (tiB Tryz.prog) = true := by kernel_rfl
theorem n_ok : Tf.all (fun _ fn => !(fn.name == "runtime.NumGoroutine")) = true := by kernel_rfl
theorem f_ok : FAll Tryz.prog Tf := ⟨⟨⟨⟨⟨⟨⟨⟨⟨trivial, Tryz.func0, trivial⟩, Tryz.func1, trivial⟩, Tryz.func2, ⟨trivial, Tryz.func3, trivial⟩⟩, Tryz.func4, ⟨⟨⟨trivial, Tryz.func5, trivial⟩, Tryz.func6, trivial⟩, Tryz.func7, ⟨trivial, Tryz.func8, trivial⟩⟩⟩, Tryz.func9, ⟨⟨⟨⟨trivial, Tryz.func10, trivial⟩, Tryz.func11, trivial⟩, Tryz.func12, ⟨trivial, Tryz.func13, trivial⟩⟩, Tryz.func14, ⟨⟨trivial, Tryz.func15, trivial⟩, Tryz.func16, ⟨trivial, Tryz.func17, trivial⟩⟩⟩⟩, Tryz.func18, ⟨⟨⟨⟨⟨trivial, Tryz.func19, trivial⟩, Tryz.func20, trivial⟩, Tryz.func21, ⟨trivial, Tryz.func22, trivial⟩⟩, Tryz.func23, ⟨⟨⟨trivial, Tryz.func24, trivial⟩, Tryz.func25, trivial⟩, Tryz.func26, ⟨trivial, Tryz.func27, trivial⟩⟩⟩, Tryz.func28, ⟨⟨⟨⟨trivial, Tryz.func29, trivial⟩, Tryz.func30, trivial⟩, Tryz.func31, ⟨trivial, Tryz.func32, trivial⟩⟩, Tryz.func33, ⟨⟨trivial, Tryz.func34, trivial⟩, Tryz.func35, ⟨trivial, Tryz.func36, trivial⟩⟩⟩⟩⟩, Tryz.func37, ⟨⟨⟨⟨⟨⟨trivial, Tryz.func38, trivial⟩, Tryz.func39, trivial⟩, Tryz.func40, ⟨trivial, Tryz.func41, trivial⟩⟩, Tryz.func42, ⟨⟨⟨trivial, Tryz.func43, trivial⟩, Tryz.func44, trivial⟩, Tryz.func45, ⟨trivial, Tryz.func46, trivial⟩⟩⟩, Tryz.func47, ⟨⟨⟨⟨trivial, Tryz.func48, trivial⟩, Tryz.func49, trivial⟩, Tryz.func50, ⟨trivial, Tryz.func51, trivial⟩⟩, Tryz.func52, ⟨⟨trivial, Tryz.func53, trivial⟩, Tryz.func54, ⟨trivial, Tryz.func55, trivial⟩⟩⟩⟩, Tryz.func56, ⟨⟨⟨⟨⟨trivial, Tryz.func57, trivial⟩, Tryz.func58, trivial⟩, Tryz.func59, ⟨trivial, Tryz.func60, trivial⟩⟩, Tryz.func61, ⟨⟨trivial, Tryz.func62, trivial⟩, Tryz.func63, ⟨trivial, Tryz.func64, trivial⟩⟩⟩, Tryz.func65, ⟨⟨⟨⟨trivial, Tryz.func66, trivial⟩, Tryz.func67, trivial⟩, Tryz.func68, ⟨trivial, Tryz.func69, trivial⟩⟩, Tryz.func70, ⟨⟨trivial, Tryz.func71, trivial⟩, Tryz.func72, ⟨trivial, Tryz.func73, trivial⟩⟩⟩⟩⟩⟩, Tryz.func74, ⟨⟨⟨⟨⟨⟨⟨trivial, Tryz.func75, trivial⟩, Tryz.func76, trivial⟩, Tryz.func77, ⟨trivial, Tryz.func78, trivial⟩⟩, Tryz.func79, ⟨⟨⟨trivial, Tryz.func80, trivial⟩, Tryz.func81, trivial⟩, Tryz.func82, ⟨trivial, Tryz.func83, trivial⟩⟩⟩, Tryz.func84, ⟨⟨⟨⟨trivial, Tryz.func85, trivial⟩, Tryz.func86, trivial⟩, Tryz.func87, ⟨trivial, Tryz.func88, trivial⟩⟩, Tryz.func89, ⟨⟨trivial, Tryz.func90, trivial⟩, Tryz.func91, ⟨trivial, Tryz.func92, trivial⟩⟩⟩⟩, Tryz.func93, ⟨⟨⟨⟨⟨trivial, Tryz.func94, trivial⟩, Tryz.func95, trivial⟩, Tryz.func96, ⟨trivial, Tryz.func97, trivial⟩⟩, Tryz.func98, ⟨⟨⟨trivial, Tryz.func99, trivial⟩, Tryz.func100, trivial⟩, Tryz.func101, ⟨trivial, Tryz.func102, trivial⟩⟩⟩, Tryz.func103, ⟨⟨⟨⟨trivial, Tryz.func104, trivial⟩, Tryz.func105, trivial⟩, Tryz.func106, ⟨trivial, Tryz.func107, trivial⟩⟩, Tryz.func108, ⟨⟨trivial, Tryz.func109, trivial⟩, Tryz.func110, ⟨trivial, Tryz.func111, trivial⟩⟩⟩⟩⟩, Tryz.func112, ⟨⟨⟨⟨⟨⟨trivial, Tryz.func113, trivial⟩, Tryz.func114, trivial⟩, Tryz.func115, ⟨trivial, Tryz.func116, trivial⟩⟩, Tryz.func117, ⟨⟨⟨trivial, Tryz.func118, trivial⟩, Tryz.func119, trivial⟩, Tryz.func120, ⟨trivial, Tryz.func121, trivial⟩⟩⟩, Tryz.func122, ⟨⟨⟨⟨trivial, Tryz.func123, trivial⟩, Tryz.func124, trivial⟩, Tryz.func125, ⟨trivial, Tryz.func126, trivial⟩⟩, Tryz.func127, ⟨⟨trivial, Tryz.func128, trivial⟩, Tryz.func129, ⟨trivial, Tryz.func130, trivial⟩⟩⟩⟩, Tryz.func131, ⟨⟨⟨⟨⟨trivial, Tryz.func132, trivial⟩, Tryz.func133, trivial⟩, Tryz.func134, ⟨trivial, Tryz.func135, trivial⟩⟩, Tryz.func136, ⟨⟨trivial, Tryz.func137, trivial⟩, Tryz.func138, ⟨trivial, Tryz.func139, trivial⟩⟩⟩, Tryz.func140, ⟨⟨⟨⟨trivial, Tryz.func141, trivial⟩, Tryz.func142, trivial⟩, Tryz.func143, ⟨trivial, Tryz.func144, trivial⟩⟩, Tryz.func145, ⟨⟨trivial, Tryz.func146, trivial⟩, Tryz.func147, ⟨trivial, Tryz.func148, trivial⟩⟩⟩⟩⟩⟩⟩, Tryz.func149, ⟨⟨⟨⟨⟨⟨⟨⟨trivial, Tryz.func150, trivial⟩, Tryz.func151, trivial⟩, Tryz.func152, ⟨trivial, Tryz.func153, trivial⟩⟩, Tryz.func154, ⟨⟨⟨trivial, Tryz.func155, trivial⟩, Tryz.func156, trivial⟩, Tryz.func157, ⟨trivial, Tryz.func158, trivial⟩⟩⟩, Tryz.func159, ⟨⟨⟨⟨trivial, Tryz.func160, trivial⟩, Tryz.func161, trivial⟩, Tryz.func162, ⟨trivial, Tryz.func163, trivial⟩⟩, Tryz.func164, ⟨⟨trivial, Tryz.func165, trivial⟩, Tryz.func166, ⟨trivial, Tryz.func167, trivial⟩⟩⟩⟩, Tryz.func168, ⟨⟨⟨⟨⟨trivial, Tryz.func169, trivial⟩, Tryz.func170, trivial⟩, Tryz.func171, ⟨trivial, Tryz.func172, trivial⟩⟩, Tryz.func173, ⟨⟨⟨trivial, Tryz.func174, trivial⟩, Tryz.func175, trivial⟩, Tryz.func176, ⟨trivial, Tryz.func177, trivial⟩⟩⟩, Tryz.func178, ⟨⟨⟨⟨trivial, Tryz.func179, trivial⟩, Tryz.func180, trivial⟩, Tryz.func181, ⟨trivial, Tryz.func182, trivial⟩⟩, Tryz.func183, ⟨⟨trivial, Tryz.func184, trivial⟩, Tryz.func185, ⟨trivial, Tryz.func186, trivial⟩⟩⟩⟩⟩, Tryz.func187, ⟨⟨⟨⟨⟨⟨trivial, Tryz.func188, trivial⟩, Tryz.func189, trivial⟩, Tryz.func190, ⟨trivial, Tryz.func191, trivial⟩⟩, Tryz.func192, ⟨⟨⟨trivial, Tryz.func193, trivial⟩, Tryz.func194, trivial⟩, Tryz.func195, ⟨trivial, Tryz.func196, trivial⟩⟩⟩, Tryz.func197, ⟨⟨⟨⟨trivial, Tryz.func198, trivial⟩, Tryz.func199, trivial⟩, Tryz.func200, ⟨trivial, Tryz.func201, trivial⟩⟩, Tryz.func202, ⟨⟨trivial, Tryz.func203, trivial⟩, Tryz.func204, ⟨trivial, Tryz.func205, trivial⟩⟩⟩⟩, Tryz.func206, ⟨⟨⟨⟨⟨trivial, Tryz.func207, trivial⟩, Tryz.func208, trivial⟩, Tryz.func209, ⟨trivial, Tryz.func210, trivial⟩⟩, Tryz.func211, ⟨⟨trivial, Tryz.func212, trivial⟩, Tryz.func213, ⟨trivial, Tryz.func214, trivial⟩⟩⟩, Tryz.func215, ⟨⟨⟨⟨trivial, Tryz.func216, trivial⟩, Tryz.func217, trivial⟩, Tryz.func218, ⟨trivial, Tryz.func219, trivial⟩⟩, Tryz.func220, ⟨⟨trivial, Tryz.func221, trivial⟩, Tryz.func222, ⟨trivial, Tryz.func223, trivial⟩⟩⟩⟩⟩⟩, Tryz.func224, ⟨⟨⟨⟨⟨⟨⟨trivial, Tryz.func225, trivial⟩, Tryz.func226, trivial⟩, Tryz.func227, ⟨trivial, Tryz.func228, trivial⟩⟩, Tryz.func229, ⟨⟨⟨trivial, Tryz.func230, trivial⟩, Tryz.func231, trivial⟩, Tryz.func232, ⟨trivial, Tryz.func233, trivial⟩⟩⟩, Tryz.func234, ⟨⟨⟨⟨trivial, Tryz.func235, trivial⟩, Tryz.func236, trivial⟩, Tryz.func237, ⟨trivial, Tryz.func238, trivial⟩⟩, Tryz.func239, ⟨⟨trivial, Tryz.func240, trivial⟩, Tryz.func241, ⟨trivial, Tryz.func242, trivial⟩⟩⟩⟩, Tryz.func243, ⟨⟨⟨⟨⟨trivial, Tryz.func244, trivial⟩, Tryz.func245, trivial⟩, Tryz.func246, ⟨trivial, Tryz.func247, trivial⟩⟩, Tryz.func248, ⟨⟨⟨trivial, Tryz.func249, trivial⟩, Tryz.func250, trivial⟩, Tryz.func251, ⟨trivial, Tryz.func252, trivial⟩⟩⟩, Tryz.func253, ⟨⟨⟨⟨trivial, Tryz.func254, trivial⟩, Tryz.func255, trivial⟩, Tryz.func256, ⟨trivial, Tryz.func257, trivial⟩⟩, Tryz.func258, ⟨⟨trivial, Tryz.func259, trivial⟩, Tryz.func260, ⟨trivial, Tryz.func261, trivial⟩⟩⟩⟩⟩, Tryz.func262, ⟨⟨⟨⟨⟨⟨trivial, Tryz.func263, trivial⟩, Tryz.func264, trivial⟩, Tryz.func265, ⟨trivial, Tryz.func266, trivial⟩⟩, Tryz.func267, ⟨⟨⟨trivial, Tryz.func268, trivial⟩, Tryz.func269, trivial⟩, Tryz.func270, ⟨trivial, Tryz.func271, trivial⟩⟩⟩, Tryz.func272, ⟨⟨⟨⟨trivial, Tryz.func273, trivial⟩, Tryz.func274, trivial⟩, Tryz.func275, ⟨trivial, Tryz.func276, trivial⟩⟩, Tryz.func277, ⟨⟨trivial, Tryz.func278, trivial⟩, Tryz.func279, ⟨trivial, Tryz.func280, trivial⟩⟩⟩⟩, Tryz.func281, ⟨⟨⟨⟨⟨trivial, Tryz.func282, trivial⟩, Tryz.func283, trivial⟩, Tryz.func284, ⟨trivial, Tryz.func285, trivial⟩⟩, Tryz.func286, ⟨⟨trivial, Tryz.func287, trivial⟩, Tryz.func288, ⟨trivial, Tryz.func289, trivial⟩⟩⟩, Tryz.func290, ⟨⟨⟨⟨trivial, Tryz.func291, trivial⟩, Tryz.func292, trivial⟩, Tryz.func293, ⟨trivial, Tryz.func294, trivial⟩⟩, Tryz.func295, ⟨⟨trivial, Tryz.func296, trivial⟩, Tryz.func297, ⟨trivial, Tryz.func298, trivial⟩⟩⟩⟩⟩⟩⟩⟩
theorem tabOk : TabOk Tryz.prog T0 := TabOk.of t_ok f_ok n_ok
end Go.Proofs.YtojjkleplnijaaaGreatDoor

namespace Go.AE
section
variable {P : Program} {T : Tab}
theorem V.agree {w : World} {m m' : Mp} {n : Nat} (hI : ∀ b, m.I b → m'.I b) (hρ : ∀ r, r < n → m'.ρ r = m.ρ r) (hL : ∀ r, r < n → m'.L r = m.L r)
    {a : AV} {u : Value} (h : V w m a u) (hc : a.cl n = true) : V w m' a u := by
  induction h with
  | p v u h => exact .p v u (h.mono hI (fun _ _ => rfl))
  | ptr r ver i j off sz cap h hi =>
    have hr : r < n := by simpa [AV.cl] using hc
    rw [← hρ r hr]
    exact .ptr (m := m') r ver i j off sz cap (by rw [hL r hr, h]) hi
  | ptrOld r ver i j off b o h =>
    have hr : r < n := by simpa [AV.cl] using hc
    exact .ptrOld (m := m') r ver i j off b o (by rw [hL r hr]; exact h)
  | slr r ver off k N sz cap h hn =>
    have hr : r < n := by simpa [AV.cl] using hc
    rw [← hρ r hr]
    exact .slr (m := m') r ver off k N sz cap (by rw [hL r hr, h]) hn
  | slrNil r ver h =>
    have hr : r < n := by simpa [AV.cl] using hc
    exact .slrNil (m := m') r ver (by rw [hL r hr, h])
  | slrOld r ver off k ad c h =>
    have hr : r < n := by simpa [AV.cl] using hc
    exact .slrOld (m := m') r ver off k ad c (by rw [hL r hr]; exact h)
  | rop cs off b o u hb h1 h2 => exact .rop (m := m') cs off b o u (hI _ hb) h1 (fun j hj => (h2 j hj).mono hI (fun _ _ => rfl))
  | fn f first cap A B hA hB h1 h2 ih1 ih2 =>
    simp only [AV.cl, Bool.and_eq_true] at hc
    exact .fn f first cap A B hA hB (fun j hj hj' => ih1 j hj hj' (AV.cls_get hc.1 j hj)) (fun j hj hj' => ih2 j hj hj' (AV.cls_get hc.2 j hj))
  | iface t v u h ih => exact .iface t v u (ih hc)
  | agg cs A hA h ih => exact .agg cs A hA (fun j hj hj' => ih j hj hj' (AV.cls_get hc j hj))
  | tup cs A hA h ih => exact .tup cs A hA (fun j hj hj' => ih j hj hj' (AV.cls_get hc j hj))
  | yld r sz cap h =>
    have hr : r < n := by simpa [AV.cl] using hc
    rw [← hρ r hr]
    exact .yld (m := m') r sz cap (by rw [hL r hr, h])
  | yldOld r b h =>
    have hr : r < n := by simpa [AV.cl] using hc
    exact .yldOld (m := m') r b (by rw [hL r hr]; exact h)
  | mref r sz cap h =>
    have hr : r < n := by simpa [AV.cl] using hc
    rw [← hρ r hr]
    exact .mref (m := m') r sz cap (by rw [hL r hr, h])
  | mrefOld r b h =>
    have hr : r < n := by simpa [AV.cl] using hc
    exact .mrefOld (m := m') r b (by rw [hL r hr]; exact h)
  | junk u => exact .junk u
theorem BlkOk.agree {w : World} {m m' : Mp} {n : Nat} (hI : ∀ b, m.I b → m'.I b) (hρ : ∀ r, r < n → m'.ρ r = m.ρ r) (hL : ∀ r, r < n → m'.L r = m.L r)
    {l : Inf} {g : Nat} {b : ABlk} (h : BlkOk w m l g b) (hc : b.cl n) : BlkOk w m' l g b := by
  cases b with
  | absent => exact h
  | dead => exact h
  | box ty cs =>
    obtain ⟨hl, c, h1, h2, h3⟩ := h
    exact ⟨hl, c, h1, h2, fun j hj => let ⟨u, a, b⟩ := h3 j hj; ⟨u, a, b.agree hI hρ hL (AV.cls_get hc j hj)⟩⟩
  | arr ty sz ver k f =>
    rcases h with h | ⟨cap, c, hl, h0, h00, h1, h2, h3⟩
    · exact .inl h
    exact .inr ⟨cap, c, hl, h0, h00, h1, h2, fun i hi => ⟨(h3 i hi).1, fun j hj => let ⟨u, a, b⟩ := (h3 i hi).2 j hj; ⟨u, a, b.agree hI hρ hL (AV.cls_get (hc i hi) j hj)⟩⟩⟩
  | lp s env N ps asg bd =>
    obtain ⟨hl, p, fn, tmps, D, h1, h2, h3, h4⟩ := h
    exact ⟨hl, p, fn, tmps, D, h1, h2, h3, fun d => (h4 d).agree hI hρ hL (clE_look hc d)⟩
  | mp kt q st =>
    obtain ⟨hl, es, clock, r, h1, h2⟩ := h
    exact ⟨hl, es, clock, r, h1, h2.mono fun κ a u hg hv => hv.agree hI hρ hL (hc κ a hg)⟩
theorem hp_append (K X : List ABlk) (r : Nat) : hp (K ++ X) r = if r < K.length then hp K r else hp X (r - K.length) := by
  induction K generalizing r with
  | nil => simp
  | cons b K ih =>
    cases r with
    | zero => simp [hp, nth]
    | succ r =>
      have := ih r
      simp only [hp, nth, List.cons_append, List.length_cons] at this ⊢
      rw [this]
      by_cases h : r < K.length
      · rw [if_pos h, if_pos (by omega)]
      · rw [if_neg h, if_neg (by omega)]
        congr 2; omega
theorem hp_ge (K : List ABlk) (r : Nat) (h : K.length ≤ r) : hp K r = .absent := by
  have := hp_append K [] r
  rw [List.append_nil, if_neg (by omega)] at this
  rw [this]; rfl
theorem hp_takeN (K : List ABlk) (n r : Nat) : hp (takeN K n) r = if r < n then hp K r else .absent := by
  induction K generalizing n r with
  | nil => cases n <;> simp [takeN, hp, nth]
  | cons b K ih =>
    cases n with
    | zero => simp [takeN, hp, nth]
    | succ n =>
      cases r with
      | zero => simp [takeN, hp, nth]
      | succ r =>
        have := ih n r
        simp only [hp, takeN, nth] at this ⊢
        rw [this]
        by_cases h : r < n
        · rw [if_pos h, if_pos (by omega)]
        · rw [if_neg h, if_neg (by omega)]
theorem takeN_zero {α : Type} (l : List α) : takeN l 0 = [] := by cases l <;> rfl
theorem len_length {α : Type} (l : List α) : len l = l.length := by
  induction l with
  | nil => rfl
  | cons a l ih => simp [len, ih]
theorem takeN_length {α : Type} (l : List α) (n : Nat) (h : n ≤ l.length) : (takeN l n).length = n := by
  induction l generalizing n with
  | nil => simp at h; subst h; rfl
  | cons a l ih =>
    cases n with
    | zero => rfl
    | succ n => simp only [takeN, List.length_cons]; rw [ih n (by simpa using h)]
theorem St.ge {w : World} {m : Mp} {K : List ABlk} (h : St w m (hp K)) (r : Nat) (hr : K.length ≤ r) : m.L r = .absent := h.absent (hp_ge K r hr)
theorem ACalls.mono {f : FuncId} {args : List AV} {K : List ABlk} {k k' : AO → List ABlk → Prop} (h : ACalls P f args K k) (hk : ∀ ao K', k ao K' → k' ao K') : ACalls P f args K k' := by
  refine ⟨h.1, fun w m Args hS hV => (h.2 w m Args hS hV).mono fun e w' he => ?_⟩
  cases e with
  | returned u => obtain ⟨m', a, K', h1, h2, h3, h4⟩ := he; exact ⟨m', a, K', h1, h2, h3, hk _ _ h4⟩
  | panicked ch => obtain ⟨m', a, u, K', h0, h1, h2, h3, h4⟩ := he; exact ⟨m', a, u, K', h0, h1, h2, h3, hk _ _ h4⟩
  | outgrown => exact he.elim
def Wk (bs : List AV) (K : List ABlk) (bs' : List AV) (K' : List ABlk) : Prop :=
  ∀ w m Args, St w m (hp K) → VL w m bs Args → ∃ m', Tr w m w m' ∧ St w m' (hp K') ∧ VL w m' bs' Args
def Wk1 (n : Nat) (a : AV) (K : List ABlk) (a' : AV) (K' : List ABlk) : Prop :=
  ∀ w m u we me, Tr we me w m → (∀ r, n ≤ r → me.L r = .absent) → St w m (hp K) → V w m a u → ∃ m', Tr we me w m' ∧ St w m' (hp K') ∧ V w m' a' u
theorem ACalls.pre {f : FuncId} {args args' : List AV} {K K' : List ABlk} {k : AO → List ABlk → Prop} (h : ACalls P f args' K' k) (hw : Wk args K args' K') : ACalls P f args K k := by
  refine ⟨h.1, fun w m Args hS hV => ?_⟩
  obtain ⟨m', hT, hS', hV'⟩ := hw w m Args hS hV
  refine (h.2 w m' Args hS' hV').mono fun e w' he => ?_
  cases e with
  | returned u => obtain ⟨m2, a, K2, h1, h2, h3, h4⟩ := he; exact ⟨m2, a, K2, hT.trans h1, h2, h3, h4⟩
  | panicked ch => obtain ⟨m2, a, u, K2, h0, h1, h2, h3, h4⟩ := he; exact ⟨m2, a, u, K2, h0, hT.trans h1, h2, h3, h4⟩
  | outgrown => exact he.elim
def AO.val : AO → AV
  | .ret v => v
  | .pan v => v
def AO.with (a : AV) : AO → AO
  | .ret _ => .ret a
  | .pan _ => .pan a
theorem ACalls.post {f : FuncId} {args : List AV} {K : List ABlk} {k k' : AO → List ABlk → Prop} (h : ACalls P f args K k)
    (hk : ∀ ao K1, k ao K1 → ∃ a' K2, Wk1 K.length ao.val K1 a' K2 ∧ k' (ao.with a') K2) : ACalls P f args K k' := by
  refine ⟨h.1, fun w m Args hS hV => (h.2 w m Args hS hV).mono fun e w' he => ?_⟩
  cases e with
  | returned u =>
    obtain ⟨m', a, K', h1, h2, h3, h4⟩ := he
    obtain ⟨a', K2, hw, hk2⟩ := hk _ _ h4
    obtain ⟨m2, h5, h6, h7⟩ := hw _ _ _ _ _ h1 (fun r hr => hS.ge r hr) h2 h3
    exact ⟨m2, a', K2, h5, h6, h7, hk2⟩
  | panicked ch =>
    obtain ⟨m', a, u, K', h0, h1, h2, h3, h4⟩ := he
    obtain ⟨a', K2, hw, hk2⟩ := hk _ _ h4
    obtain ⟨m2, h5, h6, h7⟩ := hw _ _ _ _ _ h1 (fun r hr => hS.ge r hr) h2 h3
    exact ⟨m2, a', u, K2, h0, h5, h6, h7, hk2⟩
  | outgrown => exact he.elim
def deads : Nat → List ABlk
  | 0 => []
  | n + 1 => .dead :: deads n
theorem deads_length (n : Nat) : (deads n).length = n := by
  induction n with
  | zero => rfl
  | succ n ih => simp [deads, ih]
theorem hp_deads (n r : Nat) (h : r < n) : hp (deads n) r = .dead := by
  induction n generalizing r with
  | zero => omega
  | succ n ih =>
    cases r with
    | zero => rfl
    | succ r => exact ih r (by omega)
def frameK (n : Nat) (k : AO → List ABlk → Prop) : AO → List ABlk → Prop
  | .ret a, K => a.cl n = true ∧ n ≤ K.length ∧ (∀ r, r < n → (hp K r).cl n) ∧ k (.ret a) (takeN K n)
  | .pan a, _ => a.cl 0 = true ∧ k (.pan a) (deads n)
def Mp.glue (n : Nat) (m m' : Mp) (L : Nat → Inf) : Mp := ⟨fun r => if r < n then m'.ρ r else m.ρ r, m'.I, fun r => if r < n then L r else m.L r⟩
theorem glue_ok {n : Nat} {w w' : World} {m m' : Mp} {K0 K1 X : List ABlk} {L : Nat → Inf} (hn : K0.length = n) (hn1 : K1.length = n) (hS : St w m (hp (K0 ++ X)))
    (hT : Tr w (m.cut n) w' m') {H : Nat → ABlk} (hS' : St w' m' H)
    (hL : ∀ r, r < n → (L r).isLive → L r = m'.L r)
    (hstep : ∀ r, r < n → (m.L r).step (L r) (m'.ρ r = m.ρ r))
    (hblk : ∀ r, r < n → BlkOk w' (m.glue n m' L) (L r) (m'.ρ r) (hp K1 r)) :
    Tr w m w' (m.glue n m' L) ∧ St w' (m.glue n m' L) (hp (K1 ++ X)) := by
  have hcl : ∀ r, r < n → (m.cut n).L r = m.L r := fun r hr => by simp [Mp.cut, hr]
  have hcg : ∀ r, ¬ r < n → (m.cut n).L r = .absent := fun r hr => by simp [Mp.cut, hr]
  have hlt : ∀ r, ((m.cut n).L r).isLive → r < n ∧ (m.L r).isLive := fun r h => by
    by_cases hr : r < n
    · rw [hcl r hr] at h; exact ⟨hr, h⟩
    · rw [hcg r hr] at h; exact h.elim
  have hsep : ∀ r r', r < n → ((L r).isLive) → ¬ r' < n → (m.L r').isLive → m'.ρ r ≠ m.ρ r' := fun r r' hr hl hr' hl' e => by
    have hl2 : (m'.L r).isLive := hL r hr hl ▸ hl
    rcases hT.newρ r hl2 with ⟨h1, h2⟩ | h1
    · have h3 := (hlt r h1).2
      have : m.ρ r = m.ρ r' := by rw [← e]; exact h2.symm
      exact hr' (hS.inj r r' h3 hl' this ▸ hr)
    · have := hS.lt r' hl'; omega
  have hTr : Tr w m w' (m.glue n m' L) := {
    os := hT.os
    tape := hT.tape
    output := hT.output
    size := hT.size
    out := fun b hb hr => hT.out b hb fun r hl => hr r (hlt r hl).2
    imm := fun b hb => hT.imm b hb
    same := fun b hb => hT.same b hb
    newI := fun b hb => by
      rcases hT.newI b hb with h | ⟨r, h1, h2⟩ | h
      · exact .inl h
      · exact .inr (.inl ⟨r, (hlt r h1).2, h2⟩)
      · exact .inr (.inr h)
    step := fun r => by
      by_cases hr : r < n
      · simp only [Mp.glue, hr, if_true]; exact hstep r hr
      · simp only [Mp.glue, hr, if_false]; exact Inf.step_refl _ _ trivial
    newρ := fun r hl => by
      by_cases hr : r < n
      · simp only [Mp.glue, hr, if_true] at hl ⊢
        rcases hT.newρ r (hL r hr hl ▸ hl) with ⟨h1, h2⟩ | h1
        · exact .inl ⟨(hlt r h1).2, h2⟩
        · exact .inr h1
      · simp only [Mp.glue, hr, if_false] at hl ⊢; exact .inl ⟨hl, trivial⟩ }
  refine ⟨hTr, ?_, ?_, ?_, hS'.Ilt, hS'.gl, ?_⟩
  · intro r r' h1 h2 e
    by_cases hr : r < n <;> by_cases hr' : r' < n <;> simp only [Mp.glue, hr, hr', if_true, if_false] at h1 h2 e
    · exact hS'.inj r r' (hL r hr h1 ▸ h1) (hL r' hr' h2 ▸ h2) e
    · exact absurd e (hsep r r' hr h1 hr' h2)
    · exact absurd e.symm (hsep r' r hr' h2 hr h1)
    · exact hS.inj r r' h1 h2 e
  · intro r h1 hI
    by_cases hr : r < n <;> simp only [Mp.glue, hr, if_true, if_false] at h1 hI
    · exact hS'.notI r (hL r hr h1 ▸ h1) hI
    · rcases hT.newI _ hI with h | ⟨r0, h2, h3⟩ | h
      · exact hS.notI r h1 h
      · have h4 := hlt r0 h2
        exact hr (hS.inj r0 r h4.2 h1 h3 ▸ h4.1)
      · have := hS.lt r h1; omega
  · intro r h1
    by_cases hr : r < n <;> simp only [Mp.glue, hr, if_true, if_false] at h1 ⊢
    · exact hS'.lt r (hL r hr h1 ▸ h1)
    · have := hS.lt r h1; have := hT.size; omega
  · intro r
    rw [hp_append, hn1]
    by_cases hr : r < n
    · have := hblk r hr
      rw [if_pos hr]
      have e1 : (m.glue n m' L).L r = L r := by simp [Mp.glue, hr]
      have e2 : (m.glue n m' L).ρ r = m'.ρ r := by simp [Mp.glue, hr]
      rw [e1, e2]; exact this
    · rw [if_neg hr]
      have e1 : (m.glue n m' L).L r = m.L r := by simp [Mp.glue, hr]
      have e2 : (m.glue n m' L).ρ r = m.ρ r := by simp [Mp.glue, hr]
      rw [e1, e2]
      have hb := hS.blk r
      rw [hp_append, hn, if_neg hr] at hb
      by_cases hl : (m.L r).isLive
      · refine hb.mono (hT.out _ (hS.lt r hl) fun r0 h0 e => ?_) (fun _ _ hv => hv.mono hTr)
        have h4 := hlt r0 h0
        exact hr (hS.inj r0 r h4.2 hl e ▸ h4.1)
      · exact hb.nolive hl
theorem ACalls.frame {f : FuncId} {args : List AV} {K0 X : List ABlk} {k : AO → List ABlk → Prop} (hc : AV.cls K0.length args = true) (hb : ∀ r, r < K0.length → (hp K0 r).cl K0.length)
    (h : ACalls P f args K0 (frameK K0.length k)) : ACalls P f args (K0 ++ X) (fun ao K => ∃ K1, K = K1 ++ X ∧ k ao K1) := by
  refine ⟨h.1, fun w m Args hS hV => ?_⟩
  have hH : (fun r => if r < K0.length then hp (K0 ++ X) r else .absent) = hp K0 := by
    funext r
    by_cases hr : r < K0.length
    · rw [if_pos hr, hp_append, if_pos hr]
    · rw [if_neg hr, hp_ge _ _ (by omega)]
  have hS0 : St w (m.cut K0.length) (hp K0) := by
    have := hS.cut K0.length (fun r hr => by rw [hp_append, if_pos hr]; exact hb r hr)
    rwa [hH] at this
  have hV0 : VL w (m.cut K0.length) args Args := ⟨hV.1, fun j hj hj' => (hV.2 j hj hj').cut _ (AV.cls_get hc j hj)⟩
  refine (h.2 w (m.cut K0.length) Args hS0 hV0).mono fun e w' he => ?_
  cases e with
  | returned u =>
    obtain ⟨m', a, K', h1, h2, h3, h4, h5, h6, h7⟩ := he
    have hagI : ∀ b, m'.I b → (m.glue K0.length m' m'.L).I b := fun b hb => hb
    have hagρ : ∀ r, r < K0.length → (m.glue K0.length m' m'.L).ρ r = m'.ρ r := fun r hr => by simp [Mp.glue, hr]
    have hagL : ∀ r, r < K0.length → (m.glue K0.length m' m'.L).L r = m'.L r := fun r hr => by simp [Mp.glue, hr]
    have hg := glue_ok (n := K0.length) (K1 := takeN K' K0.length) (L := m'.L) rfl (takeN_length _ _ h5) hS h1 h2 (fun r _ _ => rfl)
      (fun r hr => by have := h1.step r; simpa [Mp.cut, hr] using this)
      (fun r hr => by rw [hp_takeN, if_pos hr]; exact (h2.blk r).agree hagI hagρ hagL (h6 r hr))
    exact ⟨_, a, takeN K' K0.length ++ X, hg.1, hg.2, h3.agree hagI hagρ hagL h4, _, rfl, h7⟩
  | panicked ch =>
    obtain ⟨m', a, u, K', h0, h1, h2, h3, h4, h7⟩ := he
    have hg := glue_ok (n := K0.length) (K1 := deads K0.length) (L := fun _ => .dead) rfl (deads_length _) hS h1 h2 (fun r _ hl => hl.elim)
      (fun r hr => by
        cases hL : m.L r with
        | absent => trivial
        | dead => rfl
        | nil => exact .inl rfl
        | live => exact .inl rfl)
      (fun r hr => by rw [hp_deads _ _ hr]; rfl)
    exact ⟨_, a, u, deads K0.length ++ X, h0, hg.1, hg.2, h3.agree (n := 0) (m := m') (m' := m.glue K0.length m' fun _ => .dead) (fun b hb => hb) (fun r hr => by omega) (fun r hr => by omega) h4, _, rfl, h7⟩
  | outgrown => exact he.elim
def AV.le (a b : AV) : Prop := ∀ w m u, V w m a u → V w m b u
theorem AV.le_refl (a : AV) : a.le a := fun _ _ _ h => h
theorem AV.le_junk (a : AV) : a.le .junk := fun _ _ u _ => .junk u
theorem AV.le_of_eq {a b : AV} (h : a = b) : a.le b := h ▸ AV.le_refl a
theorem AV.nils_le (sz : Nat) (f : Nat → List PV) : (AV.p .nils).le (.p (.sl sz 0 f)) := fun w m u h => by
  cases h with
  | p _ _ h => cases h; exact .p _ _ (.sl0 sz f none 0)
theorem AV.sl_le {sz n n' : Nat} {f f' : Nat → List PV} (hn : n' = n) (h : ∀ i, i < n → f' i = f i) : (AV.p (.sl sz n f)).le (.p (.sl sz n' f')) := fun w m u hv => by
  subst hn
  cases hv with
  | p _ _ hv =>
    cases hv with
    | sl0 _ _ a c => exact .p _ _ (.sl0 sz f' a c)
    | sl _ _ _ b o c u hI hcap hc hv =>
      refine .p _ _ (.sl sz n' f' b o c u hI hcap (fun i hi j hj => ?_) (fun i hi => ?_))
      · exact hc i hi j (by rw [← h i hi]; exact hj)
      · rw [h i hi]; exact hv i hi
def lesL : List AV → List AV → Prop
  | [], [] => True
  | a :: l, b :: l' => a.le b ∧ lesL l l'
  | _, _ => False
theorem lesL.get {l l' : List AV} (h : lesL l l') : l.length = l'.length ∧ ∀ j (hj : j < l.length) (hj' : j < l'.length), l[j].le l'[j] := by
  induction l generalizing l' with
  | nil => cases l' with
    | nil => exact ⟨rfl, fun j hj => by simp at hj⟩
    | cons b l' => exact h.elim
  | cons a l ih => cases l' with
    | nil => exact h.elim
    | cons b l' =>
      obtain ⟨h1, h2⟩ := ih h.2
      refine ⟨by simp [h1], fun j hj hj' => ?_⟩
      cases j with
      | zero => exact h.1
      | succ j => exact h2 j (by simpa using hj) (by simpa using hj')
theorem lesL.refl (l : List AV) : lesL l l := by
  induction l with
  | nil => trivial
  | cons a l ih => exact ⟨AV.le_refl a, ih⟩
def ABlk.le (b b' : ABlk) : Prop := ∀ w m l g, BlkOk w m l g b → BlkOk w m l g b'
theorem ABlk.le_refl (b : ABlk) : b.le b := fun _ _ _ _ h => h
theorem ABlk.le_of_eq {a b : ABlk} (h : a = b) : a.le b := h ▸ ABlk.le_refl a
theorem ABlk.box_le {ty : TypeId} {cs cs' : List AV} (h : lesL cs cs') : (ABlk.box ty cs).le (.box ty cs') := fun w m l g hb => by
  obtain ⟨h1, h2⟩ := h.get
  obtain ⟨hl, c, hc, hs, hv⟩ := hb
  refine ⟨by rw [← h1]; exact hl, c, hc, by rw [hs, h1], fun j hj => ?_⟩
  obtain ⟨u, hu, hv⟩ := hv j (by omega)
  exact ⟨u, hu, h2 j (by omega) hj _ _ _ hv⟩
theorem ABlk.arr_le {ty : TypeId} {sz ver n n' : Nat} {f f' : Nat → List AV} (hn : n' = n) (h : ∀ i, i < n → lesL (f i) (f' i)) : (ABlk.arr ty sz ver n f).le (.arr ty sz ver n' f') := fun w m l g hb => by
  subst hn
  rcases hb with hb | ⟨cap, c, hl, h0, h00, hc, hs, hv⟩
  · exact .inl hb
  refine .inr ⟨cap, c, hl, h0, h00, hc, hs, fun i hi => ?_⟩
  obtain ⟨h1, h2⟩ := (h i hi).get
  obtain ⟨h3, h4⟩ := hv i hi
  refine ⟨by omega, fun j hj => ?_⟩
  obtain ⟨u, hu, hv⟩ := h4 j (by omega)
  exact ⟨u, hu, h2 j (by omega) hj _ _ _ hv⟩
theorem ABlk.arr_eq {ty : TypeId} {sz ver n n' : Nat} {f f' : Nat → List AV} (hn : n' = n) (h : ∀ i, i < n → f i = f' i) : (ABlk.arr ty sz ver n f).le (.arr ty sz ver n' f') :=
  ABlk.arr_le hn fun i hi => h i hi ▸ lesL.refl _
def lesK : List ABlk → List ABlk → Prop
  | [], [] => True
  | a :: l, b :: l' => a.le b ∧ lesK l l'
  | _, _ => False
theorem lesK.refl (l : List ABlk) : lesK l l := by
  induction l with
  | nil => trivial
  | cons a l ih => exact ⟨ABlk.le_refl a, ih⟩
theorem lesK.hp {K K' : List ABlk} (h : lesK K K') (r : Nat) : (hp K r).le (hp K' r) := by
  induction K generalizing K' r with
  | nil => cases K' with
    | nil => exact ABlk.le_refl _
    | cons b l' => exact h.elim
  | cons a l ih => cases K' with
    | nil => exact h.elim
    | cons b l' =>
      cases r with
      | zero => exact h.1
      | succ r => exact ih h.2 r
theorem lesK.head {K L : List ABlk} {n : Nat} (h : lesK (takeN K n) L) : lesK K (L ++ dropN K n) := by
  induction n generalizing K L with
  | zero =>
    have e : takeN K 0 = [] := by cases K <;> rfl
    rw [e] at h
    cases L with
    | nil =>
      have e : dropN K 0 = K := by cases K <;> rfl
      rw [e]; exact lesK.refl _
    | cons => exact h.elim
  | succ n ih =>
    cases K with
    | nil =>
      cases L with
      | nil => trivial
      | cons => exact h.elim
    | cons b K =>
      cases L with
      | nil => exact h.elim
      | cons c L => exact ⟨h.1, ih h.2⟩
theorem St.les {w : World} {m : Mp} {K K' : List ABlk} (hS : St w m (hp K)) (h : lesK K K') : St w m (hp K') :=
  ⟨hS.inj, hS.notI, hS.lt, hS.Ilt, hS.gl, fun r => h.hp r _ _ _ _ (hS.blk r)⟩
theorem Le.refl (kb : Nat) (s : AS) : Le kb s s := fun _ _ _ _ m _ hT hS hE => ⟨m, hT, hS, hE, .refl m⟩
theorem Le.trans {kb : Nat} {s s' s'' : AS} (h : Le kb s s') (h' : Le kb s' s'') : Le kb s s'' := fun we me hk w m tmps hT hS hE => by
  obtain ⟨m', h1, h2, h3, h4⟩ := h we me hk w m tmps hT hS hE
  obtain ⟨m2, k1, k2, k3, k4⟩ := h' we me hk w m' tmps h1 h2 h3
  exact ⟨m2, k1, k2, k3, h4.trans k4⟩
def subE (t : List (Nat × AV)) : List (Nat × AV) → Prop
  | [] => True
  | (d, v) :: r => (look t d).le v ∧ subE t r
theorem subE.look {t t' : List (Nat × AV)} (h : subE t t') (d : Nat) : (look t d).le (look t' d) := by
  induction t' with
  | nil => exact AV.le_junk _
  | cons x r ih =>
    obtain ⟨j, v⟩ := x
    rw [look_cons]
    by_cases e : j = d
    · subst e; rw [if_pos rfl]; exact h.1
    · rw [if_neg e]; exact ih h.2
theorem Le.env {kb : Nat} {t t' : List (Nat × AV)} {K K' : List ABlk} (h : subE t t') (hK : lesK K K') : Le kb ⟨t, K⟩ ⟨t', K'⟩ := fun _ _ _ _ m _ hT hS hE =>
  ⟨m, hT, hS.les hK, fun d => h.look d _ _ _ (hE d), .refl m⟩
theorem clE.look {n : Nat} {t : List (Nat × AV)} (h : clE n t = true) (d : Nat) : (look t d).cl n = true := clE_look h d
def clK (n : Nat) : List ABlk → Prop
  | [] => True
  | b :: r => b.cl n ∧ clK n r
theorem clK.hp {n : Nat} {K : List ABlk} (h : clK n K) (r : Nat) : (hp K r).cl n := by
  induction K generalizing r with
  | nil => exact trivial
  | cons b K ih =>
    cases r with
    | zero => exact h.1
    | succ r => exact ih h.2 r
theorem cut_St {w : World} {m : Mp} {K : List ABlk} {n : Nat} (hS : St w m (hp K)) (h : clK n (takeN K n)) : St w (m.cut n) (hp (takeN K n)) := by
  have hcl : ∀ r, r < n → (hp K r).cl n := fun r hr => by
    have := clK.hp h r
    rwa [hp_takeN, if_pos hr] at this
  have := hS.cut n hcl
  have e : (fun r => if r < n then hp K r else .absent) = hp (takeN K n) := by
    funext r; rw [hp_takeN]
  rwa [e] at this
theorem Le.cut {kb n : Nat} {t : List (Nat × AV)} {K : List ABlk} (hn : Nat.ble kb n = true) (ht : clE n t = true) (hK : clK n (takeN K n)) : Le kb ⟨t, K⟩ ⟨t, takeN K n⟩ := fun _ _ hk _ m _ hT hS hE =>
  ⟨m.cut n, hT.cut n (fun r hr => hk r (Nat.le_trans (Nat.le_of_ble_eq_true hn) hr)), cut_St hS hK, fun d => (hE d).cut n (clE.look ht d), .cut m n⟩
theorem Wk1.cut {n : Nat} {a : AV} {K : List ABlk} (k : Nat) (hn : n ≤ k) (ha : a.cl k = true) (hK : clK k (takeN K k)) : Wk1 n a K a (takeN K k) := fun _ m _ _ _ hT hk hS hV =>
  ⟨m.cut k, hT.cut k (fun r hr => hk r (by omega)), cut_St hS hK, hV.cut k ha⟩
theorem Wk1.refl (n : Nat) (a : AV) (K : List ABlk) : Wk1 n a K a K := fun _ m _ _ _ hT _ hS hV => ⟨m, hT, hS, hV⟩
theorem Wk1.trans {n : Nat} {a a' a'' : AV} {K K' K'' : List ABlk} (h : Wk1 n a K a' K') (h' : Wk1 n a' K' a'' K'') : Wk1 n a K a'' K'' := fun w m u we me hT hk hS hV => by
  obtain ⟨m', h1, h2, h3⟩ := h w m u we me hT hk hS hV
  exact h' w m' u we me h1 hk h2 h3
theorem Wk1.le {n : Nat} {a a' : AV} {K K' : List ABlk} (h : a.le a') (hK : lesK K K') : Wk1 n a K a' K' := fun _ m _ _ _ hT _ hS hV => ⟨m, hT, hS.les hK, h _ _ _ hV⟩
theorem Wk.refl (bs : List AV) (K : List ABlk) : Wk bs K bs K := fun w m _ hS hV => ⟨m, Tr.refl w m, hS, hV⟩
theorem Wk.trans {a a' a'' : List AV} {K K' K'' : List ABlk} (h : Wk a K a' K') (h' : Wk a' K' a'' K'') : Wk a K a'' K'' := fun w m us hS hV => by
  obtain ⟨m', h1, h2, h3⟩ := h w m us hS hV
  obtain ⟨m2, h4, h5, h6⟩ := h' w m' us h2 h3
  exact ⟨m2, h1.trans h4, h5, h6⟩
theorem Wk.le {bs bs' : List AV} {K K' : List ABlk} (h : lesL bs bs') (hK : lesK K K') : Wk bs K bs' K' := fun w m us hS hV =>
  ⟨m, Tr.refl w m, hS.les hK, by
    obtain ⟨h1, h2⟩ := h.get
    exact ⟨h1 ▸ hV.1, fun j hj hj' => h2 j (by omega) hj _ _ _ (hV.2 j (by omega) hj')⟩⟩
theorem upd_setN {K : List ABlk} {r : Nat} (b : ABlk) (hr : r < K.length) : upd (hp K) r b = hp (setN K r b) := by
  induction K generalizing r with
  | nil => simp at hr
  | cons c K ih =>
    funext j
    cases r with
    | zero => cases j <;> simp [upd, hp, setN, nth]
    | succ r =>
      cases j with
      | zero => simp [upd, hp, setN, nth]
      | succ j =>
        have := congrFun (ih (r := r) (by simpa using hr)) j
        simp only [upd, hp, setN, nth] at this ⊢
        rw [← this]
        simp
theorem nth_lt {α : Type} {l : List α} {r : Nat} {b : α} (h : nth l r = some b) : r < l.length := by
  induction l generalizing r with
  | nil => simp [nth] at h
  | cons a l ih =>
    cases r with
    | zero => simp
    | succ r => simp only [nth] at h; have := ih h; simp; omega
def Mp.kill (m : Mp) (r : Nat) : Mp := { m with L := fun k => if k = r then .dead else m.L k }
theorem Tr.kill {w : World} {m : Mp} {r v : Nat} (hr : m.L r = .nil v) : Tr w m w (m.kill r) where
  os := rfl
  tape := rfl
  output := rfl
  size := Nat.le_refl _
  out := fun _ _ _ => rfl
  imm := fun _ h => h
  same := fun _ _ => rfl
  newI := fun _ h => .inl h
  step := fun k => by
    simp only [Mp.kill]
    by_cases hk : k = r
    · subst hk; simp only [if_true]; rw [hr]; exact .inl rfl
    · simp only [hk, if_false]; exact Inf.step_refl _ _ trivial
  newρ := fun k hk => by
    simp only [Mp.kill] at hk ⊢
    by_cases hk' : k = r
    · subst hk'; simp [Inf.isLive] at hk
    · simp only [hk', if_false] at hk; exact .inl ⟨hk, trivial⟩
theorem freeze_sl {w : World} {m : Mp} {K : List ABlk} {r ty sz ver n : Nat} {f : Nat → List AV} (hS : St w m (hp K)) (hr : nth K r = some (.arr ty sz ver n f)) (g : Nat → List PV) (hg : ∀ i, i < n → f i = pvs (g i)) :
    ∃ m', Tr w m w m' ∧ St w m' (hp (setN K r .dead)) ∧ (∀ u, V w m (.slr r ver 0 n) u → V w m' (.p (.sl sz n g)) u) := by
  have hrl := nth_lt hr
  have hb := hS.blk r
  have e : hp K r = .arr ty sz ver n f := by simp [hp, hr]
  rw [e] at hb
  rcases hb with ⟨hL, h0⟩ | ⟨cap, c, hL, hn, hm, hc, hs, hv⟩
  · -- a nil slice
    subst h0
    have hT := Tr.kill (w := w) hL
    refine ⟨m.kill r, hT, ?_, fun u hu => ?_⟩
    · rw [← upd_setN _ hrl]
      have hlive : ∀ k, ((m.kill r).L k).isLive → (m.L k).isLive := fun k hk => by
        simp only [Mp.kill] at hk
        by_cases e : k = r
        · simp [e, Inf.isLive] at hk
        · simpa [e] using hk
      refine ⟨fun r1 r2 h1 h2 e => hS.inj r1 r2 (hlive _ h1) (hlive _ h2) e, fun r1 h1 => hS.notI r1 (hlive _ h1), fun r1 h1 => hS.lt r1 (hlive _ h1), hS.Ilt, hS.gl, fun k => ?_⟩
      by_cases hk : k = r
      · subst hk; simp [upd, Mp.kill, BlkOk]
      · have hk2 := (hS.blk k).mono (w' := w) (m' := m.kill r) rfl (fun a u hv => hv.mono hT)
        simp only [upd, Mp.kill, hk, if_false]
        exact hk2
    · cases hu with
      | slr _ _ _ _ N sz' cap h _ => rw [hL] at h; simp at h
      | slrNil _ _ h => exact .p _ _ (.sl0 sz g none 0)
      | slrOld _ _ _ _ ad c h => exact .p _ _ (.sl0 sz g ad c)
  · have hl : (m.L r).isLive := by rw [hL]; trivial
    have hcell : ∀ i, i < n → ∀ j, j < (g i).length → ∃ u, c[i * sz + j]? = some u ∧ VP w m.I ((g i).getD j .nilp) u := fun i hi j hj => by
      obtain ⟨h1, h2⟩ := hv i hi
      have e2 := hg i hi
      have hlen : (f i).length = (g i).length := by rw [e2, pvs_len]
      obtain ⟨u, hu, hvu⟩ := h2 j (by omega)
      refine ⟨u, hu, ?_⟩
      have e3 : (f i)[j]'(by omega) = .p ((g i)[j]) := by
        have : (f i)[j]? = some (.p ((g i)[j])) := by rw [e2, List.getElem?_eq_getElem (by rw [pvs_len]; exact hj), pvs_get]
        rw [List.getElem?_eq_getElem (by omega)] at this
        exact Option.some.inj this
      rw [e3] at hvu
      cases hvu with
      | p _ _ h => rw [List.getD_eq_getElem?_getD, List.getElem?_eq_getElem hj]; exact h
    refine ⟨m.freeze r, Tr.freeze r hl, ?_, fun u hu => ?_⟩
    · rw [← upd_setN _ hrl]; exact hS.freeze r hl
    · cases hu with
      | slr _ _ _ _ N sz' cap' h hN =>
        rw [hL] at h
        simp only [Inf.live.injEq] at h
        obtain ⟨-, -, rfl, rfl⟩ := h
        refine .p _ _ ?_
        rw [Nat.zero_mul, Nat.sub_zero]
        have hcs : ∀ i, i < n → ∀ j, j < (g i).length → w.cell? ⟨m.ρ r, 0 + (i * sz + j), none⟩ = some (c.getD (i * sz + j) undef) := fun i hi j hj => by
          obtain ⟨u, hu, _⟩ := hcell i hi j hj
          simp [World.cell?, hc, hu, Array.getD_eq_getD_getElem?]
        refine .sl sz n g (m.ρ r) 0 cap (fun i j => c.getD (i * sz + j) undef) (.inr rfl) ⟨hn, Nat.le_trans hn hm⟩ hcs fun i hi j hj => ?_
        obtain ⟨u, hu, hvu⟩ := hcell i hi j hj
        have e4 : c.getD (i * sz + j) undef = u := by rw [Array.getD_eq_getD_getElem?, hu]; rfl
        rw [List.getD_eq_getElem?_getD, List.getElem?_eq_getElem hj] at hvu
        show VP w (m.freeze r).I _ _
        rw [e4]
        exact hvu.mono (fun _ hb => .inl hb) (fun _ _ => rfl)
      | slrNil _ _ h => rw [hL] at h; simp at h
      | slrOld _ _ _ _ ad c' h => rw [hL] at h; simp [Inf.old] at h
theorem Wk1.freeze {N : Nat} {K : List ABlk} {r ty sz ver n : Nat} {f : Nat → List AV} (hr : nth K r = some (.arr ty sz ver n f)) (g : Nat → List PV) (hg : ∀ i, i < n → f i = pvs (g i)) :
    Wk1 N (.slr r ver 0 n) K (.p (.sl sz n g)) (setN K r .dead) := fun w m u we me hT _ hS hV => by
  obtain ⟨m', h1, h2, h3⟩ := freeze_sl hS hr g hg
  exact ⟨m', hT.trans h1, h2, h3 u hV⟩
def allLt (p : Nat → Prop) : Nat → Prop
  | 0 => True
  | n + 1 => allLt p n ∧ p n
theorem allLt_ok {p : Nat → Prop} {n : Nat} (h : allLt p n) : ∀ i, i < n → p i := by
  induction n with
  | zero => intro i hi; omega
  | succ n ih =>
    intro i hi
    by_cases e : i = n
    · subst e; exact h.2
    · exact ih h.1 i (by omega)
theorem LoopW.by {kb : Nat} {F : AS → (Ex → AS → Prop) → Prop} {Q : Ex → AS → Prop} {ι : Type} (st : ι → AS) (Pre : ι → Prop) (μ : ι → Nat)
    (h : ∀ (X : AS → Prop), (∀ s s', Le kb s s' → X s' → X s) → ∀ i, Pre i → (∀ j, μ j < μ i → Pre j → X (st j)) → F (st i) (fun e s' => match e with | .norm => X s' | e => Q e s'))
    (i : ι) (hi : Pre i) : LoopW kb F (st i) Q := ⟨fun X hF hL => by
  have : ∀ n i, μ i < n → Pre i → X (st i) := by
    intro n
    induction n with
    | zero => intro i h; omega
    | succ n ih => exact fun i hn hp => hF _ (h X hL i hp fun j hj hpj => ih j (by omega) hpj)
  exact this _ i (Nat.lt_succ_self _) hi⟩
theorem LoopW.le {kb : Nat} {F : AS → (Ex → AS → Prop) → Prop} {Q : Ex → AS → Prop} {s s' : AS} (h : Le kb s s') (hl : LoopW kb F s' Q) : LoopW kb F s Q :=
  ⟨fun X hF hL => hL _ _ h (hl.out X hF hL)⟩
theorem Le.cutEnv {kb : Nat} (n : Nat) {t t' : List (Nat × AV)} {K K' : List ABlk} (hn : Nat.ble kb n = true) (ht : clE n t' = true) (hK : clK n (takeN K n)) (h : subE t t') (hK' : lesK (takeN K n) K') : Le kb ⟨t, K⟩ ⟨t', K'⟩ := by
  refine Le.trans (Le.env h (lesK.refl K)) (Le.trans (Le.cut hn ht hK) ?_)
  exact fun _ _ _ _ m _ hT hS hE => ⟨m, hT, hS.les hK', hE, .refl m⟩
theorem loop_by {kb : Nat} {F : AS → (Ex → AS → Prop) → Prop} {Q : Ex → AS → Prop} {t : List (Nat × AV)} {K : List ABlk} {ι : Type} (st : ι → AS) (Pre : ι → Prop) (μ : ι → Nat) (i : ι)
    (hs : subE t (st i).t) (hK : lesK K (st i).K) (hi : Pre i)
    (h : ∀ (X : AS → Prop), (∀ s s', Le kb s s' → X s' → X s) → ∀ i, Pre i → (∀ j, μ j < μ i → Pre j → X (st j)) → F (st i) (fun e s' => match e with | .norm => X s' | e => Q e s')) :
    LoopW kb F ⟨t, K⟩ Q := LoopW.le (Le.env hs hK) (LoopW.by st Pre μ h i hi)
end
end Go.AE

namespace Go.AE
section
variable {P : Program} {T : Tab}
def nsw (r : Nat) (a b : AV) : Prop := a.le b ∨ (a = .p .nils ∧ b = .slr r 0 0 0)
def nswL (r : Nat) : List AV → List AV → Prop
  | [], [] => True
  | a :: l, b :: l' => nsw r a b ∧ nswL r l l'
  | _, _ => False
def nswB (r : Nat) (b b' : ABlk) : Prop := b.le b' ∨ ∃ ty cs cs', b = .box ty cs ∧ b' = .box ty cs' ∧ nswL r cs cs'
def nswK (r : Nat) : List ABlk → List ABlk → Prop
  | [], [] => True
  | a :: l, b :: l' => nswB r a b ∧ nswK r l l'
  | _, _ => False
def nswE (r : Nat) (t : List (Nat × AV)) : List (Nat × AV) → Prop
  | [] => True
  | (d, v) :: l => nsw r (look t d) v ∧ nswE r t l
theorem nsw.v {r : Nat} {a b : AV} (h : nsw r a b) {w : World} {m : Mp} {u : Value} (hr : m.L r = .nil 0) (hv : V w m a u) : V w m b u := by
  rcases h with h | ⟨rfl, rfl⟩
  · exact h _ _ _ hv
  · cases hv with
    | p _ _ h => cases h; exact .slrNil r 0 hr
theorem nswL.get {r : Nat} {l l' : List AV} (h : nswL r l l') : l.length = l'.length ∧ ∀ j (hj : j < l.length) (hj' : j < l'.length), nsw r l[j] l'[j] := by
  induction l generalizing l' with
  | nil => cases l' with
    | nil => exact ⟨rfl, fun j hj => by simp at hj⟩
    | cons b l' => exact h.elim
  | cons a l ih => cases l' with
    | nil => exact h.elim
    | cons b l' =>
      obtain ⟨h1, h2⟩ := ih h.2
      refine ⟨by simp [h1], fun j hj hj' => ?_⟩
      cases j with
      | zero => exact h.1
      | succ j => exact h2 j (by simpa using hj) (by simpa using hj')
theorem nswB.ok {r : Nat} {b b' : ABlk} (h : nswB r b b') {w : World} {m : Mp} {l : Inf} {g : Nat} (hr : m.L r = .nil 0) (hb : BlkOk w m l g b) : BlkOk w m l g b' := by
  rcases h with h | ⟨ty, cs, cs', rfl, rfl, h⟩
  · exact h _ _ _ _ hb
  · obtain ⟨h1, h2⟩ := h.get
    obtain ⟨hl, c, hc, hs, hv⟩ := hb
    refine ⟨by rw [← h1]; exact hl, c, hc, by rw [hs, h1], fun j hj => ?_⟩
    obtain ⟨u, hu, hv⟩ := hv j (by omega)
    exact ⟨u, hu, (h2 j (by omega) hj).v hr hv⟩
theorem nswK.length {r : Nat} {K K' : List ABlk} (h : nswK r K K') : K.length = K'.length := by
  induction K generalizing K' with
  | nil => cases K' with
    | nil => rfl
    | cons b l' => exact h.elim
  | cons a l ih => cases K' with
    | nil => exact h.elim
    | cons b l' => simp [ih h.2]
theorem nswK.hp {r : Nat} {K K' : List ABlk} (h : nswK r K K') (j : Nat) : nswB r (hp K j) (hp K' j) := by
  induction K generalizing K' j with
  | nil => cases K' with
    | nil => exact .inl (ABlk.le_refl _)
    | cons b l' => exact h.elim
  | cons a l ih => cases K' with
    | nil => exact h.elim
    | cons b l' =>
      cases j with
      | zero => exact h.1
      | succ j => exact ih h.2 j
theorem nswK.refl (r : Nat) (K : List ABlk) : nswK r K K := by
  induction K with
  | nil => trivial
  | cons b K ih => exact ⟨.inl (ABlk.le_refl b), ih⟩
theorem nswE.look {r : Nat} {t t' : List (Nat × AV)} (h : nswE r t t') (d : Nat) : nsw r (look t d) (look t' d) := by
  induction t' with
  | nil => exact .inl (AV.le_junk _)
  | cons x l ih =>
    obtain ⟨j, v⟩ := x
    rw [look_cons]
    by_cases e : j = d
    · subst e; rw [if_pos rfl]; exact h.1
    · rw [if_neg e]; exact ih h.2
theorem Tr.nil {w : World} {m : Mp} {r : Nat} (hr : m.L r = .absent) : Tr w m w (m.set r 0 (.nil 0)) where
  os := rfl
  tape := rfl
  output := rfl
  size := Nat.le_refl _
  out := fun _ _ _ => rfl
  imm := fun _ h => h
  same := fun _ _ => rfl
  newI := fun _ h => .inl h
  step := fun k => by
    simp only [Mp.set]
    by_cases hk : k = r
    · subst hk; rw [hr]; trivial
    · simp only [hk, if_false]; exact Inf.step_refl _ _ trivial
  newρ := fun k hk => by
    simp only [Mp.set] at hk ⊢
    by_cases hk' : k = r
    · subst hk'; simp [Inf.isLive] at hk
    · simp only [hk', if_false] at hk ⊢; exact .inl ⟨hk, trivial⟩
theorem nil_core {w : World} {m : Mp} {K K' : List ABlk} (ty sz : Nat) (f : Nat → List AV) (hS : St w m (hp K)) (hK : nswK K.length K K') :
    ∃ m', Tr w m w m' ∧ St w m' (hp (K' ++ [.arr ty sz 0 0 f])) ∧ m'.L K.length = .nil 0 := by
  have ha : m.L K.length = .absent := hS.ge _ (Nat.le_refl _)
  have hT2 := Tr.nil (w := w) ha
  have hr : (m.set K.length 0 (.nil 0)).L K.length = .nil 0 := by simp [Mp.set]
  have hlive : ∀ k, ((m.set K.length 0 (.nil 0)).L k).isLive → k ≠ K.length ∧ (m.L k).isLive := fun k hk => by
    simp only [Mp.set] at hk
    by_cases e : k = K.length
    · simp [e, Inf.isLive] at hk
    · exact ⟨e, by simpa [e] using hk⟩
  have hρ : ∀ k, k ≠ K.length → (m.set K.length 0 (.nil 0)).ρ k = m.ρ k := fun k hk => by simp [Mp.set, hk]
  refine ⟨_, hT2, ⟨fun r1 r2 h1 h2 e => ?_, fun r1 h1 => ?_, fun r1 h1 => ?_, hS.Ilt, hS.gl, fun j => ?_⟩, hr⟩
  · rw [hρ _ (hlive _ h1).1, hρ _ (hlive _ h2).1] at e
    exact hS.inj r1 r2 (hlive _ h1).2 (hlive _ h2).2 e
  · rw [hρ _ (hlive _ h1).1]; exact hS.notI r1 (hlive _ h1).2
  · rw [hρ _ (hlive _ h1).1]; exact hS.lt r1 (hlive _ h1).2
  · rw [hp_append, ← hK.length]
    by_cases e : j < K.length
    · rw [if_pos e]
      have hb := (hS.blk j).mono (w' := w) (m' := m.set K.length 0 (.nil 0)) rfl (fun a u hv => hv.mono hT2)
      have hL : (m.set K.length 0 (.nil 0)).L j = m.L j := by simp [Mp.set, show j ≠ K.length by omega]
      rw [hL, hρ _ (show j ≠ K.length by omega)]
      exact (hK.hp j).ok hr hb
    · rw [if_neg e]
      by_cases e2 : j = K.length
      · subst e2
        rw [hr, Nat.sub_self]
        exact .inl ⟨rfl, rfl⟩
      · have : hp [ABlk.arr ty sz 0 0 f] (j - K.length) = .absent := hp_ge _ _ (by simp; omega)
        rw [this]
        show (m.set K.length 0 (.nil 0)).L j = .absent
        have := hS.ge j (by omega)
        simpa [Mp.set, e2] using this
theorem Le.nilRow {kb : Nat} {t t' : List (Nat × AV)} {K K' : List ABlk} (ty sz : Nat) (f : Nat → List AV) (_ : Nat.ble kb K.length = true) (ht : nswE K.length t t') (hK : nswK K.length K K') :
    Le kb ⟨t, K⟩ ⟨t', K' ++ [.arr ty sz 0 0 f]⟩ := fun we me hk w m tmps hT hS hE => by
  obtain ⟨m', h1, h2, h3⟩ := nil_core ty sz f hS hK
  exact ⟨m', hT.trans h1, h2, fun d => (ht.look d).v h3 ((hE d).mono h1), .tr h1 h2⟩
theorem ACalls.nil {f : FuncId} {args : List AV} {K : List ABlk} {k : AO → List ABlk → Prop}
    (h : ACalls P f args K (fun ao K1 => ∃ ty sz g K2, nswK K1.length K1 K2 ∧ k ao (K2 ++ [.arr ty sz 0 0 g]))) : ACalls P f args K k := by
  refine h.post fun ao K1 ⟨ty, sz, g, K2, h1, h2⟩ => ⟨ao.val, K2 ++ [.arr ty sz 0 0 g], fun w m u we me hT hk hS hV => ?_, by cases ao <;> exact h2⟩
  obtain ⟨m', h3, h4, _⟩ := nil_core ty sz g hS h1
  exact ⟨m', hT.trans h3, h4, hV.mono h3⟩
theorem loop_nil {kb : Nat} {F : AS → (Ex → AS → Prop) → Prop} {Q : Ex → AS → Prop} {t : List (Nat × AV)} {K : List ABlk} {ι : Type} (ty sz : Nat) (f : Nat → List AV) (st : ι → AS) (Pre : ι → Prop) (μ : ι → Nat) (i : ι) (K1 : List ABlk)
    (hkb : Nat.ble kb K.length = true) (hs : nswE K.length t (st i).t) (hK : nswK K.length K K1) (hK1 : (st i).K = K1 ++ [.arr ty sz 0 0 f]) (hi : Pre i)
    (h : ∀ (X : AS → Prop), (∀ s s', Le kb s s' → X s' → X s) → ∀ i, Pre i → (∀ j, μ j < μ i → Pre j → X (st j)) → F (st i) (fun e s' => match e with | .norm => X s' | e => Q e s')) :
    LoopW kb F ⟨t, K⟩ Q := by
  refine LoopW.le (Le.nilRow ty sz f hkb hs hK) ?_
  have := LoopW.by (kb := kb) (F := F) (Q := Q) st Pre μ h i hi
  have e : st i = ⟨(st i).t, K1 ++ [.arr ty sz 0 0 f]⟩ := by
    cases hst : st i
    rw [hst] at hK1
    simp only at hK1
    rw [hK1]
  rwa [e] at this
theorem loop_cut {kb : Nat} {F : AS → (Ex → AS → Prop) → Prop} {Q : Ex → AS → Prop} {t : List (Nat × AV)} {K : List ABlk} {ι : Type} (n : Nat) (st : ι → AS) (Pre : ι → Prop) (μ : ι → Nat) (i : ι)
    (hn : Nat.ble kb n = true) (ht : clE n (st i).t = true) (hs : subE t (st i).t) (hK : clK n (takeN K n)) (hK' : lesK (takeN K n) (st i).K) (hi : Pre i)
    (h : ∀ (X : AS → Prop), (∀ s s', Le kb s s' → X s' → X s) → ∀ i, Pre i → (∀ j, μ j < μ i → Pre j → X (st j)) → F (st i) (fun e s' => match e with | .norm => X s' | e => Q e s')) :
    LoopW kb F ⟨t, K⟩ Q := LoopW.le (Le.cutEnv (t' := (st i).t) (K' := (st i).K) n hn ht hK hs hK') (LoopW.by st Pre μ h i hi)
theorem Wk1.tup_freeze1 {N : Nat} {K : List ABlk} {r ty sz ver n : Nat} {f : Nat → List AV} {l : List AV} (hr : nth K r = some (.arr ty sz ver n f)) (g : Nat → List PV) (hg : ∀ i, i < n → f i = pvs (g i)) :
    Wk1 N (.tup (.slr r ver 0 n :: l)) K (.tup (.p (.sl sz n g) :: l)) (setN K r .dead) := fun w m u we me hT _ hS hV => by
  obtain ⟨m', h1, h2, h3⟩ := freeze_sl hS hr g hg
  refine ⟨m', hT.trans h1, h2, ?_⟩
  cases hV with
  | tup _ A hA hv =>
    refine .tup _ A hA fun j hj hj' => ?_
    cases j with
    | zero => exact h3 _ (hv 0 (by simp) hj')
    | succ j => exact (hv (j + 1) (by simpa using hj) hj').mono h1
theorem AV.tup_le {l l' : List AV} (h : lesL l l') : (AV.tup l).le (.tup l') := fun w m u hV => by
  obtain ⟨h1, h2⟩ := h.get
  cases hV with
  | tup _ A hA hv => exact .tup _ A (by rw [← h1]; exact hA) fun j hj hj' => h2 j (by omega) hj _ _ _ (hv j (by omega) hj')
end
end Go.AE

namespace Go.Proofs
open Go.Shelf
def Tryz.lays137_ren : Go.Shelf.Ren := ⟨fun | 137 => 138 | 217 => 193 | 266 => 219 | n => n, fun | 9 => 9 | 5 => 5 | 3 => 3 | n => n, fun | n => n⟩
theorem Tryz.lays137 : Go.Proofs.Lays.n137 Tryz.prog Tryz.lays137_ren := {
  mixed := by kernel_rfl
  f137 := Tryz.func138.trans (congrArg some (by kernel_rfl))
  f217 := Tryz.func193.trans (congrArg some (by kernel_rfl))
  f266 := Tryz.func219.trans (congrArg some (by kernel_rfl))
  t3 := Tryz.underlying3
  a3 := Tryz.isAgg3
  z3 := Tryz.sizeOf3
  v3 := Tryz.zeroValue3
  t5 := Tryz.underlying5
  a5 := Tryz.isAgg5
  z5 := Tryz.sizeOf5
  v5 := Tryz.zeroValue5
  t9 := Tryz.underlying9
  a9 := Tryz.isAgg9
  z9 := Tryz.sizeOf9
  v9 := Tryz.zeroValue9 }
open Go.RowKit in
theorem Tryz.strings_IndexByte (s : ByteArray) (c : Int) (w : World) :
    Calls Tryz.prog 138 #[.string s, .int .u8 c] w fun e w' => e = .returned (.int .i64 (Lib.indexByte s.data.toList c.toNat.toUInt8)) ∧ w' = w := Any.strings_IndexByte Tryz.lays137 s c w
def Tryz.lays244_ren : Go.Shelf.Ren := ⟨fun | 244 => 226 | 247 => 236 | 287 => 249 | 321 => 261 | 322 => 262 | n => n, fun | 9 => 9 | 3 => 3 | 75 => 185 | 4 => 4 | 5 => 5 | 167 => 199 | 37 => 191 | 0 => 0 | 85 => 200 | 2 => 2 | 53 => 156 | 175 => 210 | 46 => 115 | 21 => 21 | 80 => 230 | n => n, fun | n => n⟩
theorem Tryz.lays244 : Go.Proofs.Lays.n244 Tryz.prog Tryz.lays244_ren := {
  mixed := by kernel_rfl
  f244 := Tryz.func226.trans (congrArg some (by kernel_rfl))
  f247 := Tryz.func236.trans (congrArg some (by kernel_rfl))
  f287 := Tryz.func249.trans (congrArg some (by kernel_rfl))
  f321 := Tryz.func261.trans (congrArg some (by kernel_rfl))
  f322 := Tryz.func262.trans (congrArg some (by kernel_rfl))
  t0 := Tryz.underlying0
  a0 := Tryz.isAgg0
  z0 := Tryz.sizeOf0
  v0 := Tryz.zeroValue0
  t2 := Tryz.underlying2
  a2 := Tryz.isAgg2
  z2 := Tryz.sizeOf2
  v2 := Tryz.zeroValue2
  t3 := Tryz.underlying3
  a3 := Tryz.isAgg3
  z3 := Tryz.sizeOf3
  v3 := Tryz.zeroValue3
  t4 := Tryz.underlying4
  a4 := Tryz.isAgg4
  z4 := Tryz.sizeOf4
  v4 := Tryz.zeroValue4
  t5 := Tryz.underlying5
  a5 := Tryz.isAgg5
  z5 := Tryz.sizeOf5
  v5 := Tryz.zeroValue5
  t9 := Tryz.underlying9
  a9 := Tryz.isAgg9
  z9 := Tryz.sizeOf9
  v9 := Tryz.zeroValue9
  t21 := Tryz.underlying21
  a21 := Tryz.isAgg21
  z21 := Tryz.sizeOf21
  v21 := Tryz.zeroValue21
  t37 := Tryz.underlying191
  a37 := Tryz.isAgg191
  z37 := Tryz.sizeOf191
  v37 := Tryz.zeroValue191
  t46 := Tryz.underlying115
  a46 := Tryz.isAgg115
  z46 := Tryz.sizeOf115
  v46 := Tryz.zeroValue115
  t53 := Tryz.underlying156
  a53 := Tryz.isAgg156
  z53 := Tryz.sizeOf156
  v53 := Tryz.zeroValue156
  t75 := Tryz.underlying185
  a75 := Tryz.isAgg185
  z75 := Tryz.sizeOf185
  v75 := Tryz.zeroValue185
  t85 := Tryz.underlying200
  a85 := Tryz.isAgg200
  z85 := Tryz.sizeOf200
  v85 := Tryz.zeroValue200
  t167 := Tryz.underlying199
  a167 := Tryz.isAgg199
  z167 := Tryz.sizeOf199
  v167 := Tryz.zeroValue199
  t175 := Tryz.underlying210
  a175 := Tryz.isAgg210
  z175 := Tryz.sizeOf210
  v175 := Tryz.zeroValue210 }
open Go.RowKit in
theorem Tryz.internal_strconv_Atoi (s : ByteArray) (n : Int) (hl : s.size ≤ 18) (h : Lib.atoi s.data.toList = some n) (w : World) :
    Calls Tryz.prog 226 #[.string s] w fun e w' => e = .returned (.tuple #[.int .i64 n, .nilIface]) ∧ ∃ t, w' = Lib.bytesWorld w 5 t := Any.internal_strconv_Atoi Tryz.lays244 s n hl h w
def Tryz.lays172_ren : Go.Shelf.Ren := ⟨fun | 172 => 211 | 244 => 226 | 245 => 227 | 247 => 236 | 279 => 237 | 280 => 238 | 281 => 239 | 282 => 240 | 287 => 249 | 316 => 250 | 171 => 212 | 205 => 251 | 321 => 261 | 322 => 262 | 243 => 228 | 246 => 241 | 283 => 252 | 284 => 253 | 285 => 254 | 286 => 255 | 129 => 164 | 317 => 263 | 318 => 264 | 319 => 265 | 320 => 266 | 337 => 269 | 338 => 270 | n => n, fun | 9 => 9 | 3 => 3 | 75 => 185 | 76 => 186 | 4 => 4 | 5 => 5 | 167 => 199 | 37 => 191 | 0 => 0 | 85 => 200 | 2 => 2 | 168 => 202 | 53 => 156 | 175 => 210 | 46 => 115 | 210 => 214 | 127 => 221 | 145 => 224 | 143 => 222 | 21 => 21 | 171 => 216 | 173 => 218 | 212 => 226 | 51 => 154 | 20 => 20 | 213 => 227 | 232 => 228 | 233 => 229 | 80 => 230 | n => n, fun | 15 => 1 | 16 => 2 | 17 => 3 | 18 => 4 | 19 => 5 | n => n⟩
theorem Tryz.lays172 : Go.Proofs.Lays.n172 Tryz.prog Tryz.lays172_ren := {
  mixed := by kernel_rfl
  f129 := Tryz.func164.trans (congrArg some (by kernel_rfl))
  f171 := Tryz.func212.trans (congrArg some (by kernel_rfl))
  f172 := Tryz.func211.trans (congrArg some (by kernel_rfl))
  f205 := Tryz.func251.trans (congrArg some (by kernel_rfl))
  f243 := Tryz.func228.trans (congrArg some (by kernel_rfl))
  f244 := Tryz.func226.trans (congrArg some (by kernel_rfl))
  f245 := Tryz.func227.trans (congrArg some (by kernel_rfl))
  f246 := Tryz.func241.trans (congrArg some (by kernel_rfl))
  f247 := Tryz.func236.trans (congrArg some (by kernel_rfl))
  f279 := Tryz.func237.trans (congrArg some (by kernel_rfl))
  f280 := Tryz.func238.trans (congrArg some (by kernel_rfl))
  f281 := Tryz.func239.trans (congrArg some (by kernel_rfl))
  f282 := Tryz.func240.trans (congrArg some (by kernel_rfl))
  f283 := Tryz.func252.trans (congrArg some (by kernel_rfl))
  f284 := Tryz.func253.trans (congrArg some (by kernel_rfl))
  f285 := Tryz.func254.trans (congrArg some (by kernel_rfl))
  f286 := Tryz.func255.trans (congrArg some (by kernel_rfl))
  f287 := Tryz.func249.trans (congrArg some (by kernel_rfl))
  f316 := Tryz.func250.trans (congrArg some (by kernel_rfl))
  f317 := Tryz.func263.trans (congrArg some (by kernel_rfl))
  f318 := Tryz.func264.trans (congrArg some (by kernel_rfl))
  f319 := Tryz.func265.trans (congrArg some (by kernel_rfl))
  f320 := Tryz.func266.trans (congrArg some (by kernel_rfl))
  f321 := Tryz.func261.trans (congrArg some (by kernel_rfl))
  f322 := Tryz.func262.trans (congrArg some (by kernel_rfl))
  f337 := Tryz.func269.trans (congrArg some (by kernel_rfl))
  f338 := Tryz.func270.trans (congrArg some (by kernel_rfl))
  t0 := Tryz.underlying0
  a0 := Tryz.isAgg0
  z0 := Tryz.sizeOf0
  v0 := Tryz.zeroValue0
  t2 := Tryz.underlying2
  a2 := Tryz.isAgg2
  z2 := Tryz.sizeOf2
  v2 := Tryz.zeroValue2
  t3 := Tryz.underlying3
  a3 := Tryz.isAgg3
  z3 := Tryz.sizeOf3
  v3 := Tryz.zeroValue3
  t4 := Tryz.underlying4
  a4 := Tryz.isAgg4
  z4 := Tryz.sizeOf4
  v4 := Tryz.zeroValue4
  t5 := Tryz.underlying5
  a5 := Tryz.isAgg5
  z5 := Tryz.sizeOf5
  v5 := Tryz.zeroValue5
  t9 := Tryz.underlying9
  a9 := Tryz.isAgg9
  z9 := Tryz.sizeOf9
  v9 := Tryz.zeroValue9
  t20 := Tryz.underlying20
  a20 := Tryz.isAgg20
  z20 := Tryz.sizeOf20
  v20 := Tryz.zeroValue20
  t21 := Tryz.underlying21
  a21 := Tryz.isAgg21
  z21 := Tryz.sizeOf21
  v21 := Tryz.zeroValue21
  t37 := Tryz.underlying191
  a37 := Tryz.isAgg191
  z37 := Tryz.sizeOf191
  v37 := Tryz.zeroValue191
  t46 := Tryz.underlying115
  a46 := Tryz.isAgg115
  z46 := Tryz.sizeOf115
  v46 := Tryz.zeroValue115
  t51 := Tryz.underlying154
  a51 := Tryz.isAgg154
  z51 := Tryz.sizeOf154
  v51 := Tryz.zeroValue154
  t53 := Tryz.underlying156
  a53 := Tryz.isAgg156
  z53 := Tryz.sizeOf156
  v53 := Tryz.zeroValue156
  t75 := Tryz.underlying185
  a75 := Tryz.isAgg185
  z75 := Tryz.sizeOf185
  v75 := Tryz.zeroValue185
  t76 := Tryz.underlying186
  a76 := Tryz.isAgg186
  z76 := Tryz.sizeOf186
  v76 := Tryz.zeroValue186
  t85 := Tryz.underlying200
  a85 := Tryz.isAgg200
  z85 := Tryz.sizeOf200
  v85 := Tryz.zeroValue200
  t127 := Tryz.underlying221
  a127 := Tryz.isAgg221
  z127 := Tryz.sizeOf221
  v127 := Tryz.zeroValue221
  t143 := Tryz.underlying222
  a143 := Tryz.isAgg222
  z143 := Tryz.sizeOf222
  v143 := Tryz.zeroValue222
  t145 := Tryz.underlying224
  a145 := Tryz.isAgg224
  z145 := Tryz.sizeOf224
  v145 := Tryz.zeroValue224
  t167 := Tryz.underlying199
  a167 := Tryz.isAgg199
  z167 := Tryz.sizeOf199
  v167 := Tryz.zeroValue199
  t168 := Tryz.underlying202
  a168 := Tryz.isAgg202
  z168 := Tryz.sizeOf202
  v168 := Tryz.zeroValue202
  t171 := Tryz.underlying216
  a171 := Tryz.isAgg216
  z171 := Tryz.sizeOf216
  v171 := Tryz.zeroValue216
  t173 := Tryz.underlying218
  a173 := Tryz.isAgg218
  z173 := Tryz.sizeOf218
  v173 := Tryz.zeroValue218
  t175 := Tryz.underlying210
  a175 := Tryz.isAgg210
  z175 := Tryz.sizeOf210
  v175 := Tryz.zeroValue210
  t210 := Tryz.underlying214
  a210 := Tryz.isAgg214
  z210 := Tryz.sizeOf214
  v210 := Tryz.zeroValue214
  t212 := Tryz.underlying226
  a212 := Tryz.isAgg226
  z212 := Tryz.sizeOf226
  v212 := Tryz.zeroValue226
  t213 := Tryz.underlying227
  a213 := Tryz.isAgg227
  z213 := Tryz.sizeOf227
  t232 := Tryz.underlying228
  a232 := Tryz.isAgg228
  z232 := Tryz.sizeOf228
  v232 := Tryz.zeroValue228
  t233 := Tryz.underlying229
  a233 := Tryz.isAgg229
  z233 := Tryz.sizeOf229
  v233 := Tryz.zeroValue229
  g15 := by kernel_rfl
  g16 := by kernel_rfl
  g17 := by kernel_rfl
  g18 := by kernel_rfl
  g19 := by kernel_rfl }
open Go.RowKit in
theorem Tryz.strconv_Atoi (s : ByteArray) (n : Int) (hl : s.size ≤ 18) (h : Lib.atoi s.data.toList = some n) (w : World) :
    Calls Tryz.prog 211 #[.string s] w fun e w' => e = .returned (.tuple #[.int .i64 n, .nilIface]) ∧ ∃ t, w' = Lib.bytesWorld w 5 t := Any.strconv_Atoi Tryz.lays172 s n hl h w
def Tryz.lays129_ren : Go.Shelf.Ren := ⟨fun | 129 => 164 | n => n, fun | 53 => 156 | 3 => 3 | 4 => 4 | 46 => 115 | 5 => 5 | 9 => 9 | n => n, fun | n => n⟩
theorem Tryz.lays129 : Go.Proofs.Lays.n129 Tryz.prog Tryz.lays129_ren := {
  mixed := by kernel_rfl
  f129 := Tryz.func164.trans (congrArg some (by kernel_rfl))
  t3 := Tryz.underlying3
  a3 := Tryz.isAgg3
  z3 := Tryz.sizeOf3
  v3 := Tryz.zeroValue3
  t4 := Tryz.underlying4
  a4 := Tryz.isAgg4
  z4 := Tryz.sizeOf4
  v4 := Tryz.zeroValue4
  t5 := Tryz.underlying5
  a5 := Tryz.isAgg5
  z5 := Tryz.sizeOf5
  v5 := Tryz.zeroValue5
  t9 := Tryz.underlying9
  a9 := Tryz.isAgg9
  z9 := Tryz.sizeOf9
  v9 := Tryz.zeroValue9
  t46 := Tryz.underlying115
  a46 := Tryz.isAgg115
  z46 := Tryz.sizeOf115
  v46 := Tryz.zeroValue115
  t53 := Tryz.underlying156
  a53 := Tryz.isAgg156
  z53 := Tryz.sizeOf156
  v53 := Tryz.zeroValue156 }
theorem Tryz.bits_Len64 (x : Int) (w : World) (h0 : 0 ≤ x) (h1 : x ≤ 18446744073709551615) :
    Calls Tryz.prog 164 #[.int .u64 x] w fun e w' => e = .returned (.int .i64 (Lib.bitLen x.toNat)) ∧ w' = w := Any.bits_Len64 Tryz.lays129 x w h0 h1
def Tryz.lays317_ren : Go.Shelf.Ren := ⟨fun | 317 => 263 | n => n, fun | 3 => 3 | 46 => 115 | n => n, fun | n => n⟩
theorem Tryz.lays317 : Go.Proofs.Lays.n317 Tryz.prog Tryz.lays317_ren := {
  mixed := by kernel_rfl
  f317 := Tryz.func263.trans (congrArg some (by kernel_rfl))
  t3 := Tryz.underlying3
  a3 := Tryz.isAgg3
  z3 := Tryz.sizeOf3
  v3 := Tryz.zeroValue3
  t46 := Tryz.underlying115
  a46 := Tryz.isAgg115
  z46 := Tryz.sizeOf115
  v46 := Tryz.zeroValue115 }
open Go.Lib in
theorem Tryz.internal_strconv_log10Pow2 (x : Nat) (h : x ≤ 64) (w : World) :
    Calls Tryz.prog 263 #[.int .i64 x] w fun e w' => e = .returned (.int .i64 (Lib.l10 x)) ∧ w' = w := Any.internal_strconv_log10Pow2 Tryz.lays317 x h w
def Tryz.lays318_ren : Go.Shelf.Ren := ⟨fun | 318 => 264 | n => n, fun | 3 => 3 | 4 => 4 | n => n, fun | n => n⟩
theorem Tryz.lays318 : Go.Proofs.Lays.n318 Tryz.prog Tryz.lays318_ren := {
  mixed := by kernel_rfl
  f318 := Tryz.func264.trans (congrArg some (by kernel_rfl))
  t3 := Tryz.underlying3
  a3 := Tryz.isAgg3
  z3 := Tryz.sizeOf3
  v3 := Tryz.zeroValue3
  t4 := Tryz.underlying4
  a4 := Tryz.isAgg4
  z4 := Tryz.sizeOf4
  v4 := Tryz.zeroValue4 }
open Go.Lib in
theorem Tryz.internal_strconv_bool2_int (b : Bool) (w : World) :
    Calls Tryz.prog 264 #[.bool b] w fun e w' => e = .returned (.int .i64 (if b then 1 else 0)) ∧ w' = w := Any.internal_strconv_bool2_int Tryz.lays318 b w
def Tryz.lays283_ren : Go.Shelf.Ren := ⟨fun | 283 => 252 | n => n, fun | 3 => 3 | 9 => 9 | 4 => 4 | n => n, fun | n => n⟩
theorem Tryz.lays283 : Go.Proofs.Lays.n283 Tryz.prog Tryz.lays283_ren := {
  mixed := by kernel_rfl
  f283 := Tryz.func252.trans (congrArg some (by kernel_rfl))
  t3 := Tryz.underlying3
  a3 := Tryz.isAgg3
  z3 := Tryz.sizeOf3
  v3 := Tryz.zeroValue3
  t4 := Tryz.underlying4
  a4 := Tryz.isAgg4
  z4 := Tryz.sizeOf4
  v4 := Tryz.zeroValue4
  t9 := Tryz.underlying9
  a9 := Tryz.isAgg9
  z9 := Tryz.sizeOf9
  v9 := Tryz.zeroValue9 }
open Go.Lib in
theorem Tryz.internal_strconv_small (i : Nat) (h : i < 100) (w : World) :
    Calls Tryz.prog 252 #[.int .i64 i] w fun e w' => e = .returned (.string ⟨(Lib.decDigits i).toArray⟩) ∧ w' = w := Any.internal_strconv_small Tryz.lays283 i h w
def Tryz.laysM284_ren : Go.Shelf.Ren := ⟨fun | 284 => 253 | 129 => 164 | 317 => 263 | 318 => 264 | n => n, fun | 53 => 156 | 3 => 3 | 212 => 226 | 0 => 0 | 4 => 4 | 46 => 115 | 5 => 5 | 9 => 9 | n => n, fun | 17 => 3 | n => n⟩
theorem Tryz.laysM284 : Go.Proofs.LaysM.n284 Tryz.prog Tryz.laysM284_ren := {
  mixed := by kernel_rfl
  f129 := Tryz.func164.trans (congrArg some (by kernel_rfl))
  f284 := Tryz.func253.trans (congrArg some (by kernel_rfl))
  f317 := Tryz.func263.trans (congrArg some (by kernel_rfl))
  f318 := Tryz.func264.trans (congrArg some (by kernel_rfl))
  t0 := Tryz.underlying0
  a0 := Tryz.isAgg0
  z0 := Tryz.sizeOf0
  v0 := Tryz.zeroValue0
  t3 := Tryz.underlying3
  a3 := Tryz.isAgg3
  z3 := Tryz.sizeOf3
  v3 := Tryz.zeroValue3
  t4 := Tryz.underlying4
  a4 := Tryz.isAgg4
  z4 := Tryz.sizeOf4
  v4 := Tryz.zeroValue4
  t5 := Tryz.underlying5
  a5 := Tryz.isAgg5
  z5 := Tryz.sizeOf5
  v5 := Tryz.zeroValue5
  t9 := Tryz.underlying9
  a9 := Tryz.isAgg9
  z9 := Tryz.sizeOf9
  v9 := Tryz.zeroValue9
  t46 := Tryz.underlying115
  a46 := Tryz.isAgg115
  z46 := Tryz.sizeOf115
  v46 := Tryz.zeroValue115
  t53 := Tryz.underlying156
  a53 := Tryz.isAgg156
  z53 := Tryz.sizeOf156
  v53 := Tryz.zeroValue156
  t212 := Tryz.underlying226
  a212 := Tryz.isAgg226
  z212 := Tryz.sizeOf226
  v212 := Tryz.zeroValue226
  g17 := by kernel_rfl
  i0 := by kernel_rfl
  i3 := by kernel_rfl
  i4 := by kernel_rfl
  i5 := by kernel_rfl
  i9 := by kernel_rfl
  i46 := by kernel_rfl
  i53 := by kernel_rfl
  i212 := by kernel_rfl
  m17 := by kernel_rfl }
open Go.Lib in
theorem Tryz.internal_strconv_numDigits (u : Nat) (h1 : 1 ≤ u) (h2 : u < 18446744073709551616) (w : World) (htab : Lib.TabIs Tryz.prog w "internal/strconv.uint64pow10" .u64 Lib.pow10Tab) :
    Calls Tryz.prog 253 #[.int .u64 u] w fun e w' => e = .returned (.int .i64 (Lib.nDigits u)) ∧ w' = w := Any.internal_strconv_numDigits Tryz.laysM284 u h1 h2 w htab
def Tryz.lays285_ren : Go.Shelf.Ren := ⟨fun | 285 => 254 | n => n, fun | 37 => 191 | 53 => 156 | 3 => 3 | 4 => 4 | 51 => 154 | 9 => 9 | 5 => 5 | 0 => 0 | n => n, fun | n => n⟩
theorem Tryz.lays285 : Go.Proofs.Lays.n285 Tryz.prog Tryz.lays285_ren := {
  mixed := by kernel_rfl
  f285 := Tryz.func254.trans (congrArg some (by kernel_rfl))
  t0 := Tryz.underlying0
  a0 := Tryz.isAgg0
  z0 := Tryz.sizeOf0
  v0 := Tryz.zeroValue0
  t3 := Tryz.underlying3
  a3 := Tryz.isAgg3
  z3 := Tryz.sizeOf3
  v3 := Tryz.zeroValue3
  t4 := Tryz.underlying4
  a4 := Tryz.isAgg4
  z4 := Tryz.sizeOf4
  v4 := Tryz.zeroValue4
  t5 := Tryz.underlying5
  a5 := Tryz.isAgg5
  z5 := Tryz.sizeOf5
  v5 := Tryz.zeroValue5
  t9 := Tryz.underlying9
  a9 := Tryz.isAgg9
  z9 := Tryz.sizeOf9
  v9 := Tryz.zeroValue9
  t37 := Tryz.underlying191
  a37 := Tryz.isAgg191
  z37 := Tryz.sizeOf191
  v37 := Tryz.zeroValue191
  t51 := Tryz.underlying154
  a51 := Tryz.isAgg154
  z51 := Tryz.sizeOf154
  v51 := Tryz.zeroValue154
  t53 := Tryz.underlying156
  a53 := Tryz.isAgg156
  z53 := Tryz.sizeOf156
  v53 := Tryz.zeroValue156 }
open Go.RowKit Go.Sort Go.Lib in
theorem Tryz.internal_strconv_formatBase10 (blk off cap : Nat) (u : Nat) (d : Array UInt8) (w : World) (hH : Holds (fun (b : UInt8) => Value.int .u8 (b.toNat : Int)) w blk off d) (hu : u < 10 ^ d.size) (hu64 : u < 18446744073709551616) (hsz : d.size < 4611686018427387904) :
    Calls Tryz.prog 254 #[.slice (some ⟨blk, off, none⟩) d.size cap, .int .u64 u] w fun e w' =>
      e = .returned (.tuple #[]) ∧ ∃ (n v' : Nat) (dk : Array UInt8), w' = (putRow (fun (b : UInt8) => Value.int .u8 (b.toNat : Int)) w blk off dk).drewN n ∧ FmtInv d.size u 0 v' dk := Any.internal_strconv_formatBase10 Tryz.lays285 blk off cap u d w hH hu hu64 hsz
def Tryz.laysM246_ren : Go.Shelf.Ren := ⟨fun | 246 => 241 | 283 => 252 | 284 => 253 | 285 => 254 | 286 => 255 | 129 => 164 | 317 => 263 | 318 => 264 | 319 => 265 | 320 => 266 | 337 => 269 | 338 => 270 | n => n, fun | 2 => 2 | 3 => 3 | 9 => 9 | 4 => 4 | 171 => 216 | 0 => 0 | 53 => 156 | 37 => 191 | 5 => 5 | 173 => 218 | 212 => 226 | 51 => 154 | 20 => 20 | 213 => 227 | 46 => 115 | 232 => 228 | 233 => 229 | n => n, fun | 17 => 3 | 18 => 4 | 19 => 5 | n => n⟩
theorem Tryz.laysM246 : Go.Proofs.LaysM.n246 Tryz.prog Tryz.laysM246_ren := {
  mixed := by kernel_rfl
  f129 := Tryz.func164.trans (congrArg some (by kernel_rfl))
  f246 := Tryz.func241.trans (congrArg some (by kernel_rfl))
  f283 := Tryz.func252.trans (congrArg some (by kernel_rfl))
  f284 := Tryz.func253.trans (congrArg some (by kernel_rfl))
  f285 := Tryz.func254.trans (congrArg some (by kernel_rfl))
  f286 := Tryz.func255.trans (congrArg some (by kernel_rfl))
  f317 := Tryz.func263.trans (congrArg some (by kernel_rfl))
  f318 := Tryz.func264.trans (congrArg some (by kernel_rfl))
  f319 := Tryz.func265.trans (congrArg some (by kernel_rfl))
  f320 := Tryz.func266.trans (congrArg some (by kernel_rfl))
  f337 := Tryz.func269.trans (congrArg some (by kernel_rfl))
  f338 := Tryz.func270.trans (congrArg some (by kernel_rfl))
  t0 := Tryz.underlying0
  a0 := Tryz.isAgg0
  z0 := Tryz.sizeOf0
  v0 := Tryz.zeroValue0
  t2 := Tryz.underlying2
  a2 := Tryz.isAgg2
  z2 := Tryz.sizeOf2
  v2 := Tryz.zeroValue2
  t3 := Tryz.underlying3
  a3 := Tryz.isAgg3
  z3 := Tryz.sizeOf3
  v3 := Tryz.zeroValue3
  t4 := Tryz.underlying4
  a4 := Tryz.isAgg4
  z4 := Tryz.sizeOf4
  v4 := Tryz.zeroValue4
  t5 := Tryz.underlying5
  a5 := Tryz.isAgg5
  z5 := Tryz.sizeOf5
  v5 := Tryz.zeroValue5
  t9 := Tryz.underlying9
  a9 := Tryz.isAgg9
  z9 := Tryz.sizeOf9
  v9 := Tryz.zeroValue9
  t20 := Tryz.underlying20
  a20 := Tryz.isAgg20
  z20 := Tryz.sizeOf20
  v20 := Tryz.zeroValue20
  t37 := Tryz.underlying191
  a37 := Tryz.isAgg191
  z37 := Tryz.sizeOf191
  v37 := Tryz.zeroValue191
  t46 := Tryz.underlying115
  a46 := Tryz.isAgg115
  z46 := Tryz.sizeOf115
  v46 := Tryz.zeroValue115
  t51 := Tryz.underlying154
  a51 := Tryz.isAgg154
  z51 := Tryz.sizeOf154
  v51 := Tryz.zeroValue154
  t53 := Tryz.underlying156
  a53 := Tryz.isAgg156
  z53 := Tryz.sizeOf156
  v53 := Tryz.zeroValue156
  t171 := Tryz.underlying216
  a171 := Tryz.isAgg216
  z171 := Tryz.sizeOf216
  v171 := Tryz.zeroValue216
  t173 := Tryz.underlying218
  a173 := Tryz.isAgg218
  z173 := Tryz.sizeOf218
  v173 := Tryz.zeroValue218
  t212 := Tryz.underlying226
  a212 := Tryz.isAgg226
  z212 := Tryz.sizeOf226
  v212 := Tryz.zeroValue226
  t213 := Tryz.underlying227
  a213 := Tryz.isAgg227
  z213 := Tryz.sizeOf227
  t232 := Tryz.underlying228
  a232 := Tryz.isAgg228
  z232 := Tryz.sizeOf228
  v232 := Tryz.zeroValue228
  t233 := Tryz.underlying229
  a233 := Tryz.isAgg229
  z233 := Tryz.sizeOf229
  v233 := Tryz.zeroValue229
  g17 := by kernel_rfl
  g18 := by kernel_rfl
  g19 := by kernel_rfl
  i0 := by kernel_rfl
  i2 := by kernel_rfl
  i3 := by kernel_rfl
  i4 := by kernel_rfl
  i5 := by kernel_rfl
  i9 := by kernel_rfl
  i20 := by kernel_rfl
  i37 := by kernel_rfl
  i46 := by kernel_rfl
  i51 := by kernel_rfl
  i53 := by kernel_rfl
  i171 := by kernel_rfl
  i173 := by kernel_rfl
  i212 := by kernel_rfl
  i232 := by kernel_rfl
  i233 := by kernel_rfl
  m17 := by kernel_rfl
  m18 := by kernel_rfl
  m19 := by kernel_rfl }
open Go.RowKit Go.Sort Go.Lib in
theorem Tryz.internal_strconv_FormatInt_10 (n : Int) (h0 : -9223372036854775808 ≤ n) (h1 : n ≤ 9223372036854775807) (w : World) (htab : Lib.TabIs Tryz.prog w "internal/strconv.uint64pow10" .u64 Lib.pow10Tab) :
    Calls Tryz.prog 241 #[.int .i64 n, .int .i64 10] w fun e w' => e = .returned (.string ⟨(Lib.itoa n).toArray⟩) ∧ ∃ k os, w' = grow (w.drewN k) os := Any.internal_strconv_FormatInt_10 Tryz.laysM246 n h0 h1 w htab
def Tryz.lays246_ren : Go.Shelf.Ren := ⟨fun | 246 => 241 | 283 => 252 | 284 => 253 | 285 => 254 | 286 => 255 | 129 => 164 | 317 => 263 | 318 => 264 | 319 => 265 | 320 => 266 | 337 => 269 | 338 => 270 | n => n, fun | 2 => 2 | 3 => 3 | 9 => 9 | 4 => 4 | 171 => 216 | 0 => 0 | 53 => 156 | 37 => 191 | 5 => 5 | 173 => 218 | 212 => 226 | 51 => 154 | 20 => 20 | 213 => 227 | 46 => 115 | 232 => 228 | 233 => 229 | n => n, fun | 17 => 3 | 18 => 4 | 19 => 5 | n => n⟩
theorem Tryz.lays246 : Go.Proofs.Lays.n246 Tryz.prog Tryz.lays246_ren := {
  mixed := by kernel_rfl
  f129 := Tryz.func164.trans (congrArg some (by kernel_rfl))
  f246 := Tryz.func241.trans (congrArg some (by kernel_rfl))
  f283 := Tryz.func252.trans (congrArg some (by kernel_rfl))
  f284 := Tryz.func253.trans (congrArg some (by kernel_rfl))
  f285 := Tryz.func254.trans (congrArg some (by kernel_rfl))
  f286 := Tryz.func255.trans (congrArg some (by kernel_rfl))
  f317 := Tryz.func263.trans (congrArg some (by kernel_rfl))
  f318 := Tryz.func264.trans (congrArg some (by kernel_rfl))
  f319 := Tryz.func265.trans (congrArg some (by kernel_rfl))
  f320 := Tryz.func266.trans (congrArg some (by kernel_rfl))
  f337 := Tryz.func269.trans (congrArg some (by kernel_rfl))
  f338 := Tryz.func270.trans (congrArg some (by kernel_rfl))
  t0 := Tryz.underlying0
  a0 := Tryz.isAgg0
  z0 := Tryz.sizeOf0
  v0 := Tryz.zeroValue0
  t2 := Tryz.underlying2
  a2 := Tryz.isAgg2
  z2 := Tryz.sizeOf2
  v2 := Tryz.zeroValue2
  t3 := Tryz.underlying3
  a3 := Tryz.isAgg3
  z3 := Tryz.sizeOf3
  v3 := Tryz.zeroValue3
  t4 := Tryz.underlying4
  a4 := Tryz.isAgg4
  z4 := Tryz.sizeOf4
  v4 := Tryz.zeroValue4
  t5 := Tryz.underlying5
  a5 := Tryz.isAgg5
  z5 := Tryz.sizeOf5
  v5 := Tryz.zeroValue5
  t9 := Tryz.underlying9
  a9 := Tryz.isAgg9
  z9 := Tryz.sizeOf9
  v9 := Tryz.zeroValue9
  t20 := Tryz.underlying20
  a20 := Tryz.isAgg20
  z20 := Tryz.sizeOf20
  v20 := Tryz.zeroValue20
  t37 := Tryz.underlying191
  a37 := Tryz.isAgg191
  z37 := Tryz.sizeOf191
  v37 := Tryz.zeroValue191
  t46 := Tryz.underlying115
  a46 := Tryz.isAgg115
  z46 := Tryz.sizeOf115
  v46 := Tryz.zeroValue115
  t51 := Tryz.underlying154
  a51 := Tryz.isAgg154
  z51 := Tryz.sizeOf154
  v51 := Tryz.zeroValue154
  t53 := Tryz.underlying156
  a53 := Tryz.isAgg156
  z53 := Tryz.sizeOf156
  v53 := Tryz.zeroValue156
  t171 := Tryz.underlying216
  a171 := Tryz.isAgg216
  z171 := Tryz.sizeOf216
  v171 := Tryz.zeroValue216
  t173 := Tryz.underlying218
  a173 := Tryz.isAgg218
  z173 := Tryz.sizeOf218
  v173 := Tryz.zeroValue218
  t212 := Tryz.underlying226
  a212 := Tryz.isAgg226
  z212 := Tryz.sizeOf226
  v212 := Tryz.zeroValue226
  t213 := Tryz.underlying227
  a213 := Tryz.isAgg227
  z213 := Tryz.sizeOf227
  t232 := Tryz.underlying228
  a232 := Tryz.isAgg228
  z232 := Tryz.sizeOf228
  v232 := Tryz.zeroValue228
  t233 := Tryz.underlying229
  a233 := Tryz.isAgg229
  z233 := Tryz.sizeOf229
  v233 := Tryz.zeroValue229
  g17 := by kernel_rfl
  g18 := by kernel_rfl
  g19 := by kernel_rfl }
open Go.RowKit Go.Sort Go.Lib in
theorem Tryz.internal_strconv_FormatInt_10_small (i : Nat) (hi : i < 100) (w : World) :
    Calls Tryz.prog 241 #[.int .i64 i, .int .i64 10] w fun e w' => e = .returned (.string ⟨(Lib.decDigits i).toArray⟩) ∧ w' = w := Any.internal_strconv_FormatInt_10_small Tryz.lays246 i hi w
def Tryz.laysM243_ren : Go.Shelf.Ren := ⟨fun | 243 => 228 | 246 => 241 | 283 => 252 | 284 => 253 | 285 => 254 | 286 => 255 | 129 => 164 | 317 => 263 | 318 => 264 | 319 => 265 | 320 => 266 | 337 => 269 | 338 => 270 | n => n, fun | 3 => 3 | 9 => 9 | 2 => 2 | 4 => 4 | 171 => 216 | 0 => 0 | 53 => 156 | 37 => 191 | 5 => 5 | 173 => 218 | 212 => 226 | 51 => 154 | 20 => 20 | 213 => 227 | 46 => 115 | 232 => 228 | 233 => 229 | n => n, fun | 17 => 3 | 18 => 4 | 19 => 5 | n => n⟩
theorem Tryz.laysM243 : Go.Proofs.LaysM.n243 Tryz.prog Tryz.laysM243_ren := {
  mixed := by kernel_rfl
  f129 := Tryz.func164.trans (congrArg some (by kernel_rfl))
  f243 := Tryz.func228.trans (congrArg some (by kernel_rfl))
  f246 := Tryz.func241.trans (congrArg some (by kernel_rfl))
  f283 := Tryz.func252.trans (congrArg some (by kernel_rfl))
  f284 := Tryz.func253.trans (congrArg some (by kernel_rfl))
  f285 := Tryz.func254.trans (congrArg some (by kernel_rfl))
  f286 := Tryz.func255.trans (congrArg some (by kernel_rfl))
  f317 := Tryz.func263.trans (congrArg some (by kernel_rfl))
  f318 := Tryz.func264.trans (congrArg some (by kernel_rfl))
  f319 := Tryz.func265.trans (congrArg some (by kernel_rfl))
  f320 := Tryz.func266.trans (congrArg some (by kernel_rfl))
  f337 := Tryz.func269.trans (congrArg some (by kernel_rfl))
  f338 := Tryz.func270.trans (congrArg some (by kernel_rfl))
  t0 := Tryz.underlying0
  a0 := Tryz.isAgg0
  z0 := Tryz.sizeOf0
  v0 := Tryz.zeroValue0
  t2 := Tryz.underlying2
  a2 := Tryz.isAgg2
  z2 := Tryz.sizeOf2
  v2 := Tryz.zeroValue2
  t3 := Tryz.underlying3
  a3 := Tryz.isAgg3
  z3 := Tryz.sizeOf3
  v3 := Tryz.zeroValue3
  t4 := Tryz.underlying4
  a4 := Tryz.isAgg4
  z4 := Tryz.sizeOf4
  v4 := Tryz.zeroValue4
  t5 := Tryz.underlying5
  a5 := Tryz.isAgg5
  z5 := Tryz.sizeOf5
  v5 := Tryz.zeroValue5
  t9 := Tryz.underlying9
  a9 := Tryz.isAgg9
  z9 := Tryz.sizeOf9
  v9 := Tryz.zeroValue9
  t20 := Tryz.underlying20
  a20 := Tryz.isAgg20
  z20 := Tryz.sizeOf20
  v20 := Tryz.zeroValue20
  t37 := Tryz.underlying191
  a37 := Tryz.isAgg191
  z37 := Tryz.sizeOf191
  v37 := Tryz.zeroValue191
  t46 := Tryz.underlying115
  a46 := Tryz.isAgg115
  z46 := Tryz.sizeOf115
  v46 := Tryz.zeroValue115
  t51 := Tryz.underlying154
  a51 := Tryz.isAgg154
  z51 := Tryz.sizeOf154
  v51 := Tryz.zeroValue154
  t53 := Tryz.underlying156
  a53 := Tryz.isAgg156
  z53 := Tryz.sizeOf156
  v53 := Tryz.zeroValue156
  t171 := Tryz.underlying216
  a171 := Tryz.isAgg216
  z171 := Tryz.sizeOf216
  v171 := Tryz.zeroValue216
  t173 := Tryz.underlying218
  a173 := Tryz.isAgg218
  z173 := Tryz.sizeOf218
  v173 := Tryz.zeroValue218
  t212 := Tryz.underlying226
  a212 := Tryz.isAgg226
  z212 := Tryz.sizeOf226
  v212 := Tryz.zeroValue226
  t213 := Tryz.underlying227
  a213 := Tryz.isAgg227
  z213 := Tryz.sizeOf227
  t232 := Tryz.underlying228
  a232 := Tryz.isAgg228
  z232 := Tryz.sizeOf228
  v232 := Tryz.zeroValue228
  t233 := Tryz.underlying229
  a233 := Tryz.isAgg229
  z233 := Tryz.sizeOf229
  v233 := Tryz.zeroValue229
  g17 := by kernel_rfl
  g18 := by kernel_rfl
  g19 := by kernel_rfl
  i0 := by kernel_rfl
  i2 := by kernel_rfl
  i3 := by kernel_rfl
  i4 := by kernel_rfl
  i5 := by kernel_rfl
  i9 := by kernel_rfl
  i20 := by kernel_rfl
  i37 := by kernel_rfl
  i46 := by kernel_rfl
  i51 := by kernel_rfl
  i53 := by kernel_rfl
  i171 := by kernel_rfl
  i173 := by kernel_rfl
  i212 := by kernel_rfl
  i232 := by kernel_rfl
  i233 := by kernel_rfl
  m17 := by kernel_rfl
  m18 := by kernel_rfl
  m19 := by kernel_rfl }
open Go.RowKit Go.Sort Go.Lib in
theorem Tryz.internal_strconv_Itoa (n : Int) (h0 : -9223372036854775808 ≤ n) (h1 : n ≤ 9223372036854775807) (w : World) (htab : Lib.TabIs Tryz.prog w "internal/strconv.uint64pow10" .u64 Lib.pow10Tab) :
    Calls Tryz.prog 228 #[.int .i64 n] w fun e w' => e = .returned (.string ⟨(Lib.itoa n).toArray⟩) ∧ ∃ k os, w' = grow (w.drewN k) os := Any.internal_strconv_Itoa Tryz.laysM243 n h0 h1 w htab
def Tryz.lays243_ren : Go.Shelf.Ren := ⟨fun | 243 => 228 | 246 => 241 | 283 => 252 | 284 => 253 | 285 => 254 | 286 => 255 | 129 => 164 | 317 => 263 | 318 => 264 | 319 => 265 | 320 => 266 | 337 => 269 | 338 => 270 | n => n, fun | 3 => 3 | 9 => 9 | 2 => 2 | 4 => 4 | 171 => 216 | 0 => 0 | 53 => 156 | 37 => 191 | 5 => 5 | 173 => 218 | 212 => 226 | 51 => 154 | 20 => 20 | 213 => 227 | 46 => 115 | 232 => 228 | 233 => 229 | n => n, fun | 17 => 3 | 18 => 4 | 19 => 5 | n => n⟩
theorem Tryz.lays243 : Go.Proofs.Lays.n243 Tryz.prog Tryz.lays243_ren := {
  mixed := by kernel_rfl
  f129 := Tryz.func164.trans (congrArg some (by kernel_rfl))
  f243 := Tryz.func228.trans (congrArg some (by kernel_rfl))
  f246 := Tryz.func241.trans (congrArg some (by kernel_rfl))
  f283 := Tryz.func252.trans (congrArg some (by kernel_rfl))
  f284 := Tryz.func253.trans (congrArg some (by kernel_rfl))
  f285 := Tryz.func254.trans (congrArg some (by kernel_rfl))
  f286 := Tryz.func255.trans (congrArg some (by kernel_rfl))
  f317 := Tryz.func263.trans (congrArg some (by kernel_rfl))
  f318 := Tryz.func264.trans (congrArg some (by kernel_rfl))
  f319 := Tryz.func265.trans (congrArg some (by kernel_rfl))
  f320 := Tryz.func266.trans (congrArg some (by kernel_rfl))
  f337 := Tryz.func269.trans (congrArg some (by kernel_rfl))
  f338 := Tryz.func270.trans (congrArg some (by kernel_rfl))
  t0 := Tryz.underlying0
  a0 := Tryz.isAgg0
  z0 := Tryz.sizeOf0
  v0 := Tryz.zeroValue0
  t2 := Tryz.underlying2
  a2 := Tryz.isAgg2
  z2 := Tryz.sizeOf2
  v2 := Tryz.zeroValue2
  t3 := Tryz.underlying3
  a3 := Tryz.isAgg3
  z3 := Tryz.sizeOf3
  v3 := Tryz.zeroValue3
  t4 := Tryz.underlying4
  a4 := Tryz.isAgg4
  z4 := Tryz.sizeOf4
  v4 := Tryz.zeroValue4
  t5 := Tryz.underlying5
  a5 := Tryz.isAgg5
  z5 := Tryz.sizeOf5
  v5 := Tryz.zeroValue5
  t9 := Tryz.underlying9
  a9 := Tryz.isAgg9
  z9 := Tryz.sizeOf9
  v9 := Tryz.zeroValue9
  t20 := Tryz.underlying20
  a20 := Tryz.isAgg20
  z20 := Tryz.sizeOf20
  v20 := Tryz.zeroValue20
  t37 := Tryz.underlying191
  a37 := Tryz.isAgg191
  z37 := Tryz.sizeOf191
  v37 := Tryz.zeroValue191
  t46 := Tryz.underlying115
  a46 := Tryz.isAgg115
  z46 := Tryz.sizeOf115
  v46 := Tryz.zeroValue115
  t51 := Tryz.underlying154
  a51 := Tryz.isAgg154
  z51 := Tryz.sizeOf154
  v51 := Tryz.zeroValue154
  t53 := Tryz.underlying156
  a53 := Tryz.isAgg156
  z53 := Tryz.sizeOf156
  v53 := Tryz.zeroValue156
  t171 := Tryz.underlying216
  a171 := Tryz.isAgg216
  z171 := Tryz.sizeOf216
  v171 := Tryz.zeroValue216
  t173 := Tryz.underlying218
  a173 := Tryz.isAgg218
  z173 := Tryz.sizeOf218
  v173 := Tryz.zeroValue218
  t212 := Tryz.underlying226
  a212 := Tryz.isAgg226
  z212 := Tryz.sizeOf226
  v212 := Tryz.zeroValue226
  t213 := Tryz.underlying227
  a213 := Tryz.isAgg227
  z213 := Tryz.sizeOf227
  t232 := Tryz.underlying228
  a232 := Tryz.isAgg228
  z232 := Tryz.sizeOf228
  v232 := Tryz.zeroValue228
  t233 := Tryz.underlying229
  a233 := Tryz.isAgg229
  z233 := Tryz.sizeOf229
  v233 := Tryz.zeroValue229
  g17 := by kernel_rfl
  g18 := by kernel_rfl
  g19 := by kernel_rfl }
open Go.RowKit Go.Sort Go.Lib in
theorem Tryz.internal_strconv_Itoa_small (i : Nat) (hi : i < 100) (w : World) :
    Calls Tryz.prog 228 #[.int .i64 i] w fun e w' => e = .returned (.string ⟨(Lib.decDigits i).toArray⟩) ∧ w' = w := Any.internal_strconv_Itoa_small Tryz.lays243 i hi w
def Tryz.laysM171_ren : Go.Shelf.Ren := ⟨fun | 171 => 212 | 243 => 228 | 246 => 241 | 283 => 252 | 284 => 253 | 285 => 254 | 286 => 255 | 129 => 164 | 317 => 263 | 318 => 264 | 319 => 265 | 320 => 266 | 337 => 269 | 338 => 270 | n => n, fun | 3 => 3 | 9 => 9 | 2 => 2 | 4 => 4 | 171 => 216 | 0 => 0 | 53 => 156 | 37 => 191 | 5 => 5 | 173 => 218 | 212 => 226 | 51 => 154 | 20 => 20 | 213 => 227 | 46 => 115 | 232 => 228 | 233 => 229 | n => n, fun | 17 => 3 | 18 => 4 | 19 => 5 | n => n⟩
theorem Tryz.laysM171 : Go.Proofs.LaysM.n171 Tryz.prog Tryz.laysM171_ren := {
  mixed := by kernel_rfl
  f129 := Tryz.func164.trans (congrArg some (by kernel_rfl))
  f171 := Tryz.func212.trans (congrArg some (by kernel_rfl))
  f243 := Tryz.func228.trans (congrArg some (by kernel_rfl))
  f246 := Tryz.func241.trans (congrArg some (by kernel_rfl))
  f283 := Tryz.func252.trans (congrArg some (by kernel_rfl))
  f284 := Tryz.func253.trans (congrArg some (by kernel_rfl))
  f285 := Tryz.func254.trans (congrArg some (by kernel_rfl))
  f286 := Tryz.func255.trans (congrArg some (by kernel_rfl))
  f317 := Tryz.func263.trans (congrArg some (by kernel_rfl))
  f318 := Tryz.func264.trans (congrArg some (by kernel_rfl))
  f319 := Tryz.func265.trans (congrArg some (by kernel_rfl))
  f320 := Tryz.func266.trans (congrArg some (by kernel_rfl))
  f337 := Tryz.func269.trans (congrArg some (by kernel_rfl))
  f338 := Tryz.func270.trans (congrArg some (by kernel_rfl))
  t0 := Tryz.underlying0
  a0 := Tryz.isAgg0
  z0 := Tryz.sizeOf0
  v0 := Tryz.zeroValue0
  t2 := Tryz.underlying2
  a2 := Tryz.isAgg2
  z2 := Tryz.sizeOf2
  v2 := Tryz.zeroValue2
  t3 := Tryz.underlying3
  a3 := Tryz.isAgg3
  z3 := Tryz.sizeOf3
  v3 := Tryz.zeroValue3
  t4 := Tryz.underlying4
  a4 := Tryz.isAgg4
  z4 := Tryz.sizeOf4
  v4 := Tryz.zeroValue4
  t5 := Tryz.underlying5
  a5 := Tryz.isAgg5
  z5 := Tryz.sizeOf5
  v5 := Tryz.zeroValue5
  t9 := Tryz.underlying9
  a9 := Tryz.isAgg9
  z9 := Tryz.sizeOf9
  v9 := Tryz.zeroValue9
  t20 := Tryz.underlying20
  a20 := Tryz.isAgg20
  z20 := Tryz.sizeOf20
  v20 := Tryz.zeroValue20
  t37 := Tryz.underlying191
  a37 := Tryz.isAgg191
  z37 := Tryz.sizeOf191
  v37 := Tryz.zeroValue191
  t46 := Tryz.underlying115
  a46 := Tryz.isAgg115
  z46 := Tryz.sizeOf115
  v46 := Tryz.zeroValue115
  t51 := Tryz.underlying154
  a51 := Tryz.isAgg154
  z51 := Tryz.sizeOf154
  v51 := Tryz.zeroValue154
  t53 := Tryz.underlying156
  a53 := Tryz.isAgg156
  z53 := Tryz.sizeOf156
  v53 := Tryz.zeroValue156
  t171 := Tryz.underlying216
  a171 := Tryz.isAgg216
  z171 := Tryz.sizeOf216
  v171 := Tryz.zeroValue216
  t173 := Tryz.underlying218
  a173 := Tryz.isAgg218
  z173 := Tryz.sizeOf218
  v173 := Tryz.zeroValue218
  t212 := Tryz.underlying226
  a212 := Tryz.isAgg226
  z212 := Tryz.sizeOf226
  v212 := Tryz.zeroValue226
  t213 := Tryz.underlying227
  a213 := Tryz.isAgg227
  z213 := Tryz.sizeOf227
  t232 := Tryz.underlying228
  a232 := Tryz.isAgg228
  z232 := Tryz.sizeOf228
  v232 := Tryz.zeroValue228
  t233 := Tryz.underlying229
  a233 := Tryz.isAgg229
  z233 := Tryz.sizeOf229
  v233 := Tryz.zeroValue229
  g17 := by kernel_rfl
  g18 := by kernel_rfl
  g19 := by kernel_rfl
  i0 := by kernel_rfl
  i2 := by kernel_rfl
  i3 := by kernel_rfl
  i4 := by kernel_rfl
  i5 := by kernel_rfl
  i9 := by kernel_rfl
  i20 := by kernel_rfl
  i37 := by kernel_rfl
  i46 := by kernel_rfl
  i51 := by kernel_rfl
  i53 := by kernel_rfl
  i171 := by kernel_rfl
  i173 := by kernel_rfl
  i212 := by kernel_rfl
  i232 := by kernel_rfl
  i233 := by kernel_rfl
  m17 := by kernel_rfl
  m18 := by kernel_rfl
  m19 := by kernel_rfl }
open Go.RowKit Go.Sort Go.Lib in
theorem Tryz.strconv_Itoa (n : Int) (h0 : -9223372036854775808 ≤ n) (h1 : n ≤ 9223372036854775807) (w : World) (htab : Lib.TabIs Tryz.prog w "internal/strconv.uint64pow10" .u64 Lib.pow10Tab) :
    Calls Tryz.prog 212 #[.int .i64 n] w fun e w' => e = .returned (.string ⟨(Lib.itoa n).toArray⟩) ∧ ∃ k os, w' = grow (w.drewN k) os := Any.strconv_Itoa Tryz.laysM171 n h0 h1 w htab
def Tryz.lays171_ren : Go.Shelf.Ren := ⟨fun | 171 => 212 | 243 => 228 | 246 => 241 | 283 => 252 | 284 => 253 | 285 => 254 | 286 => 255 | 129 => 164 | 317 => 263 | 318 => 264 | 319 => 265 | 320 => 266 | 337 => 269 | 338 => 270 | n => n, fun | 3 => 3 | 9 => 9 | 2 => 2 | 4 => 4 | 171 => 216 | 0 => 0 | 53 => 156 | 37 => 191 | 5 => 5 | 173 => 218 | 212 => 226 | 51 => 154 | 20 => 20 | 213 => 227 | 46 => 115 | 232 => 228 | 233 => 229 | n => n, fun | 17 => 3 | 18 => 4 | 19 => 5 | n => n⟩
theorem Tryz.lays171 : Go.Proofs.Lays.n171 Tryz.prog Tryz.lays171_ren := {
  mixed := by kernel_rfl
  f129 := Tryz.func164.trans (congrArg some (by kernel_rfl))
  f171 := Tryz.func212.trans (congrArg some (by kernel_rfl))
  f243 := Tryz.func228.trans (congrArg some (by kernel_rfl))
  f246 := Tryz.func241.trans (congrArg some (by kernel_rfl))
  f283 := Tryz.func252.trans (congrArg some (by kernel_rfl))
  f284 := Tryz.func253.trans (congrArg some (by kernel_rfl))
  f285 := Tryz.func254.trans (congrArg some (by kernel_rfl))
  f286 := Tryz.func255.trans (congrArg some (by kernel_rfl))
  f317 := Tryz.func263.trans (congrArg some (by kernel_rfl))
  f318 := Tryz.func264.trans (congrArg some (by kernel_rfl))
  f319 := Tryz.func265.trans (congrArg some (by kernel_rfl))
  f320 := Tryz.func266.trans (congrArg some (by kernel_rfl))
  f337 := Tryz.func269.trans (congrArg some (by kernel_rfl))
  f338 := Tryz.func270.trans (congrArg some (by kernel_rfl))
  t0 := Tryz.underlying0
  a0 := Tryz.isAgg0
  z0 := Tryz.sizeOf0
  v0 := Tryz.zeroValue0
  t2 := Tryz.underlying2
  a2 := Tryz.isAgg2
  z2 := Tryz.sizeOf2
  v2 := Tryz.zeroValue2
  t3 := Tryz.underlying3
  a3 := Tryz.isAgg3
  z3 := Tryz.sizeOf3
  v3 := Tryz.zeroValue3
  t4 := Tryz.underlying4
  a4 := Tryz.isAgg4
  z4 := Tryz.sizeOf4
  v4 := Tryz.zeroValue4
  t5 := Tryz.underlying5
  a5 := Tryz.isAgg5
  z5 := Tryz.sizeOf5
  v5 := Tryz.zeroValue5
  t9 := Tryz.underlying9
  a9 := Tryz.isAgg9
  z9 := Tryz.sizeOf9
  v9 := Tryz.zeroValue9
  t20 := Tryz.underlying20
  a20 := Tryz.isAgg20
  z20 := Tryz.sizeOf20
  v20 := Tryz.zeroValue20
  t37 := Tryz.underlying191
  a37 := Tryz.isAgg191
  z37 := Tryz.sizeOf191
  v37 := Tryz.zeroValue191
  t46 := Tryz.underlying115
  a46 := Tryz.isAgg115
  z46 := Tryz.sizeOf115
  v46 := Tryz.zeroValue115
  t51 := Tryz.underlying154
  a51 := Tryz.isAgg154
  z51 := Tryz.sizeOf154
  v51 := Tryz.zeroValue154
  t53 := Tryz.underlying156
  a53 := Tryz.isAgg156
  z53 := Tryz.sizeOf156
  v53 := Tryz.zeroValue156
  t171 := Tryz.underlying216
  a171 := Tryz.isAgg216
  z171 := Tryz.sizeOf216
  v171 := Tryz.zeroValue216
  t173 := Tryz.underlying218
  a173 := Tryz.isAgg218
  z173 := Tryz.sizeOf218
  v173 := Tryz.zeroValue218
  t212 := Tryz.underlying226
  a212 := Tryz.isAgg226
  z212 := Tryz.sizeOf226
  v212 := Tryz.zeroValue226
  t213 := Tryz.underlying227
  a213 := Tryz.isAgg227
  z213 := Tryz.sizeOf227
  t232 := Tryz.underlying228
  a232 := Tryz.isAgg228
  z232 := Tryz.sizeOf228
  v232 := Tryz.zeroValue228
  t233 := Tryz.underlying229
  a233 := Tryz.isAgg229
  z233 := Tryz.sizeOf229
  v233 := Tryz.zeroValue229
  g17 := by kernel_rfl
  g18 := by kernel_rfl
  g19 := by kernel_rfl }
open Go.RowKit Go.Sort Go.Lib in
theorem Tryz.strconv_Itoa_small (i : Nat) (hi : i < 100) (w : World) :
    Calls Tryz.prog 212 #[.int .i64 i] w fun e w' => e = .returned (.string ⟨(Lib.decDigits i).toArray⟩) ∧ w' = w := Any.strconv_Itoa_small Tryz.lays171 i hi w
open Go.RowKit in
theorem Tryz.internal_strconv_Atoi_err (s : ByteArray) (hl0 : 1 ≤ s.size) (hl : s.size ≤ 18) (h : Lib.atoi s.data.toList = none) (w : World) :
    Calls Tryz.prog 226 #[.string s] w fun e w' => e = .returned (.tuple #[.int .i64 0, (.iface 199 (.int .i64 2))]) ∧ (w' = w ∨ ∃ t, w' = Lib.bytesWorld w 5 t) := Any.internal_strconv_Atoi_err Tryz.lays244 s hl0 hl h w
def Tryz.lays247_ren : Go.Shelf.Ren := ⟨fun | 247 => 236 | 287 => 249 | 321 => 261 | 322 => 262 | n => n, fun | 9 => 9 | 3 => 3 | 2 => 2 | 75 => 185 | 4 => 4 | 167 => 199 | 5 => 5 | 53 => 156 | 175 => 210 | 46 => 115 | 37 => 191 | 0 => 0 | 21 => 21 | 80 => 230 | n => n, fun | n => n⟩
theorem Tryz.lays247 : Go.Proofs.Lays.n247 Tryz.prog Tryz.lays247_ren := {
  mixed := by kernel_rfl
  f247 := Tryz.func236.trans (congrArg some (by kernel_rfl))
  f287 := Tryz.func249.trans (congrArg some (by kernel_rfl))
  f321 := Tryz.func261.trans (congrArg some (by kernel_rfl))
  f322 := Tryz.func262.trans (congrArg some (by kernel_rfl))
  t0 := Tryz.underlying0
  a0 := Tryz.isAgg0
  z0 := Tryz.sizeOf0
  v0 := Tryz.zeroValue0
  t2 := Tryz.underlying2
  a2 := Tryz.isAgg2
  z2 := Tryz.sizeOf2
  v2 := Tryz.zeroValue2
  t3 := Tryz.underlying3
  a3 := Tryz.isAgg3
  z3 := Tryz.sizeOf3
  v3 := Tryz.zeroValue3
  t4 := Tryz.underlying4
  a4 := Tryz.isAgg4
  z4 := Tryz.sizeOf4
  v4 := Tryz.zeroValue4
  t5 := Tryz.underlying5
  a5 := Tryz.isAgg5
  z5 := Tryz.sizeOf5
  v5 := Tryz.zeroValue5
  t9 := Tryz.underlying9
  a9 := Tryz.isAgg9
  z9 := Tryz.sizeOf9
  v9 := Tryz.zeroValue9
  t21 := Tryz.underlying21
  a21 := Tryz.isAgg21
  z21 := Tryz.sizeOf21
  v21 := Tryz.zeroValue21
  t37 := Tryz.underlying191
  a37 := Tryz.isAgg191
  z37 := Tryz.sizeOf191
  v37 := Tryz.zeroValue191
  t46 := Tryz.underlying115
  a46 := Tryz.isAgg115
  z46 := Tryz.sizeOf115
  v46 := Tryz.zeroValue115
  t53 := Tryz.underlying156
  a53 := Tryz.isAgg156
  z53 := Tryz.sizeOf156
  v53 := Tryz.zeroValue156
  t75 := Tryz.underlying185
  a75 := Tryz.isAgg185
  z75 := Tryz.sizeOf185
  v75 := Tryz.zeroValue185
  t167 := Tryz.underlying199
  a167 := Tryz.isAgg199
  z167 := Tryz.sizeOf199
  v167 := Tryz.zeroValue199
  t175 := Tryz.underlying210
  a175 := Tryz.isAgg210
  z175 := Tryz.sizeOf210
  v175 := Tryz.zeroValue210 }
open Go.RowKit in
theorem Tryz.internal_strconv_ParseInt_empty (base bits : Int) (w : World) :
    Calls Tryz.prog 236 #[.string ⟨#[]⟩, .int .i64 base, .int .i64 bits] w fun e w' => e = .returned (.tuple #[.int .i64 0, (.iface 199 (.int .i64 2))]) ∧ w' = w := Any.internal_strconv_ParseInt_empty Tryz.lays247 base bits w
open Go.RowKit in
theorem Tryz.internal_strconv_Atoi_empty (w : World) :
    Calls Tryz.prog 226 #[.string ⟨#[]⟩] w fun e w' => e = .returned (.tuple #[.int .i64 0, (.iface 199 (.int .i64 2))]) ∧ w' = w := Any.internal_strconv_Atoi_empty Tryz.lays244 w
open Go.RowKit in
theorem Tryz.internal_strconv_Atoi_fail (s : ByteArray) (hl : s.size ≤ 18) (h : Lib.atoi s.data.toList = none) (w : World) :
    Calls Tryz.prog 226 #[.string s] w fun e w' => e = .returned (.tuple #[.int .i64 0, (.iface 199 (.int .i64 2))]) ∧ (w' = w ∨ ∃ t, w' = Lib.bytesWorld w 5 t) := Any.internal_strconv_Atoi_fail Tryz.lays244 s hl h w
def Tryz.laysM316_ren : Go.Shelf.Ren := ⟨fun | 316 => 250 | n => n, fun | 9 => 9 | 3 => 3 | 4 => 4 | 37 => 191 | 0 => 0 | 127 => 221 | 5 => 5 | n => n, fun | n => n⟩
theorem Tryz.laysM316 : Go.Proofs.LaysM.n316 Tryz.prog Tryz.laysM316_ren := {
  mixed := by kernel_rfl
  f316 := Tryz.func250.trans (congrArg some (by kernel_rfl))
  t0 := Tryz.underlying0
  a0 := Tryz.isAgg0
  z0 := Tryz.sizeOf0
  v0 := Tryz.zeroValue0
  t3 := Tryz.underlying3
  a3 := Tryz.isAgg3
  z3 := Tryz.sizeOf3
  v3 := Tryz.zeroValue3
  t4 := Tryz.underlying4
  a4 := Tryz.isAgg4
  z4 := Tryz.sizeOf4
  v4 := Tryz.zeroValue4
  t9 := Tryz.underlying9
  a9 := Tryz.isAgg9
  z9 := Tryz.sizeOf9
  v9 := Tryz.zeroValue9
  t37 := Tryz.underlying191
  a37 := Tryz.isAgg191
  z37 := Tryz.sizeOf191
  v37 := Tryz.zeroValue191
  t127 := Tryz.underlying221
  a127 := Tryz.isAgg221
  z127 := Tryz.sizeOf221
  v127 := Tryz.zeroValue221
  t5 := Tryz.underlying5
  a5 := Tryz.isAgg5
  z5 := Tryz.sizeOf5
  v5 := Tryz.zeroValue5
  i0 := by kernel_rfl
  i3 := by kernel_rfl
  i4 := by kernel_rfl
  i5 := by kernel_rfl
  i9 := by kernel_rfl
  i37 := by kernel_rfl
  i127 := by kernel_rfl }
open Go.RowKit in
theorem Tryz.stringslite_Clone (s : ByteArray) (w : World) (hlim : s.size ≤ 281474976710656) :
    Calls Tryz.prog 250 #[.string s] w fun e w' => e = .returned (.string s) ∧ Below w.heap.size w w' := Any.stringslite_Clone Tryz.laysM316 s w hlim
def Tryz.laysM279_ren : Go.Shelf.Ren := ⟨fun | 279 => 237 | 316 => 250 | n => n, fun | 9 => 9 | 168 => 202 | 75 => 185 | 210 => 214 | 3 => 3 | 4 => 4 | 37 => 191 | 0 => 0 | 127 => 221 | 80 => 230 | 5 => 5 | n => n, fun | 15 => 1 | n => n⟩
theorem Tryz.laysM279 : Go.Proofs.LaysM.n279 Tryz.prog Tryz.laysM279_ren := {
  mixed := by kernel_rfl
  f279 := Tryz.func237.trans (congrArg some (by kernel_rfl))
  f316 := Tryz.func250.trans (congrArg some (by kernel_rfl))
  t0 := Tryz.underlying0
  a0 := Tryz.isAgg0
  z0 := Tryz.sizeOf0
  v0 := Tryz.zeroValue0
  t3 := Tryz.underlying3
  a3 := Tryz.isAgg3
  z3 := Tryz.sizeOf3
  v3 := Tryz.zeroValue3
  t4 := Tryz.underlying4
  a4 := Tryz.isAgg4
  z4 := Tryz.sizeOf4
  v4 := Tryz.zeroValue4
  t9 := Tryz.underlying9
  a9 := Tryz.isAgg9
  z9 := Tryz.sizeOf9
  v9 := Tryz.zeroValue9
  t37 := Tryz.underlying191
  a37 := Tryz.isAgg191
  z37 := Tryz.sizeOf191
  v37 := Tryz.zeroValue191
  t75 := Tryz.underlying185
  a75 := Tryz.isAgg185
  z75 := Tryz.sizeOf185
  v75 := Tryz.zeroValue185
  t127 := Tryz.underlying221
  a127 := Tryz.isAgg221
  z127 := Tryz.sizeOf221
  v127 := Tryz.zeroValue221
  t168 := Tryz.underlying202
  a168 := Tryz.isAgg202
  z168 := Tryz.sizeOf202
  v168 := Tryz.zeroValue202
  t210 := Tryz.underlying214
  a210 := Tryz.isAgg214
  z210 := Tryz.sizeOf214
  v210 := Tryz.zeroValue214
  g15 := by kernel_rfl
  t5 := Tryz.underlying5
  a5 := Tryz.isAgg5
  z5 := Tryz.sizeOf5
  v5 := Tryz.zeroValue5
  t80 := Tryz.underlying230
  a80 := Tryz.isAgg230
  z80 := Tryz.sizeOf230
  v80 := Tryz.zeroValue230
  i0 := by kernel_rfl
  i3 := by kernel_rfl
  i4 := by kernel_rfl
  i5 := by kernel_rfl
  i9 := by kernel_rfl
  i37 := by kernel_rfl
  i75 := by kernel_rfl
  i80 := by kernel_rfl
  i127 := by kernel_rfl
  i168 := by kernel_rfl
  i210 := by kernel_rfl
  m15 := by kernel_rfl }
open Go.RowKit in
theorem Tryz.strconv_syntaxError (fn s : ByteArray) (ev : Value) (w : World) (hlim : s.size ≤ 281474976710656) (hv : w.cell? ⟨1, 0, none⟩ = some ev) (hev : ev = .nilIface ∨ ∃ te pe, ev = .iface te pe) :
    Calls Tryz.prog 237 #[.string fn, .string s] w fun e w' => ∃ N, e = .returned (.pointer (some ⟨N, 0, none⟩)) ∧ w.heap.size ≤ N ∧ w'.heap[N]? = some (.cells #[.string fn, .string s, ev] 214 (0, 0)) ∧ Below w.heap.size w w' := Any.strconv_syntaxError Tryz.laysM279 fn s ev w hlim hv hev
def Tryz.laysC245_ren : Go.Shelf.Ren := ⟨fun | 245 => 227 | 279 => 237 | 280 => 238 | 281 => 239 | 282 => 240 | 316 => 250 | 171 => 212 | 205 => 251 | 243 => 228 | 246 => 241 | 283 => 252 | 284 => 253 | 285 => 254 | 286 => 255 | 129 => 164 | 317 => 263 | 318 => 264 | 319 => 265 | 320 => 266 | 337 => 269 | 338 => 270 | n => n, fun | 9 => 9 | 3 => 3 | 75 => 185 | 167 => 199 | 4 => 4 | 168 => 202 | 210 => 214 | 37 => 191 | 0 => 0 | 127 => 221 | 145 => 224 | 143 => 222 | 2 => 2 | 171 => 216 | 53 => 156 | 5 => 5 | 173 => 218 | 212 => 226 | 51 => 154 | 20 => 20 | 213 => 227 | 46 => 115 | 232 => 228 | 233 => 229 | 80 => 230 | n => n, fun | 15 => 1 | 16 => 2 | 17 => 3 | 18 => 4 | 19 => 5 | n => n⟩
theorem Tryz.laysC245 : Go.Proofs.LaysC.n245 Tryz.prog Tryz.laysC245_ren := {
  mixed := by kernel_rfl
  f129 := Tryz.func164.trans (congrArg some (by kernel_rfl))
  f171 := Tryz.func212.trans (congrArg some (by kernel_rfl))
  f205 := Tryz.func251.trans (congrArg some (by kernel_rfl))
  f243 := Tryz.func228.trans (congrArg some (by kernel_rfl))
  f245 := Tryz.func227.trans (congrArg some (by kernel_rfl))
  f246 := Tryz.func241.trans (congrArg some (by kernel_rfl))
  f279 := Tryz.func237.trans (congrArg some (by kernel_rfl))
  f280 := Tryz.func238.trans (congrArg some (by kernel_rfl))
  f281 := Tryz.func239.trans (congrArg some (by kernel_rfl))
  f282 := Tryz.func240.trans (congrArg some (by kernel_rfl))
  f283 := Tryz.func252.trans (congrArg some (by kernel_rfl))
  f284 := Tryz.func253.trans (congrArg some (by kernel_rfl))
  f285 := Tryz.func254.trans (congrArg some (by kernel_rfl))
  f286 := Tryz.func255.trans (congrArg some (by kernel_rfl))
  f316 := Tryz.func250.trans (congrArg some (by kernel_rfl))
  f317 := Tryz.func263.trans (congrArg some (by kernel_rfl))
  f318 := Tryz.func264.trans (congrArg some (by kernel_rfl))
  f319 := Tryz.func265.trans (congrArg some (by kernel_rfl))
  f320 := Tryz.func266.trans (congrArg some (by kernel_rfl))
  f337 := Tryz.func269.trans (congrArg some (by kernel_rfl))
  f338 := Tryz.func270.trans (congrArg some (by kernel_rfl))
  t0 := Tryz.underlying0
  a0 := Tryz.isAgg0
  z0 := Tryz.sizeOf0
  v0 := Tryz.zeroValue0
  t2 := Tryz.underlying2
  a2 := Tryz.isAgg2
  z2 := Tryz.sizeOf2
  v2 := Tryz.zeroValue2
  t3 := Tryz.underlying3
  a3 := Tryz.isAgg3
  z3 := Tryz.sizeOf3
  v3 := Tryz.zeroValue3
  t4 := Tryz.underlying4
  a4 := Tryz.isAgg4
  z4 := Tryz.sizeOf4
  v4 := Tryz.zeroValue4
  t5 := Tryz.underlying5
  a5 := Tryz.isAgg5
  z5 := Tryz.sizeOf5
  v5 := Tryz.zeroValue5
  t9 := Tryz.underlying9
  a9 := Tryz.isAgg9
  z9 := Tryz.sizeOf9
  v9 := Tryz.zeroValue9
  t20 := Tryz.underlying20
  a20 := Tryz.isAgg20
  z20 := Tryz.sizeOf20
  v20 := Tryz.zeroValue20
  t37 := Tryz.underlying191
  a37 := Tryz.isAgg191
  z37 := Tryz.sizeOf191
  v37 := Tryz.zeroValue191
  t46 := Tryz.underlying115
  a46 := Tryz.isAgg115
  z46 := Tryz.sizeOf115
  v46 := Tryz.zeroValue115
  t51 := Tryz.underlying154
  a51 := Tryz.isAgg154
  z51 := Tryz.sizeOf154
  v51 := Tryz.zeroValue154
  t53 := Tryz.underlying156
  a53 := Tryz.isAgg156
  z53 := Tryz.sizeOf156
  v53 := Tryz.zeroValue156
  t75 := Tryz.underlying185
  a75 := Tryz.isAgg185
  z75 := Tryz.sizeOf185
  v75 := Tryz.zeroValue185
  t127 := Tryz.underlying221
  a127 := Tryz.isAgg221
  z127 := Tryz.sizeOf221
  v127 := Tryz.zeroValue221
  t143 := Tryz.underlying222
  a143 := Tryz.isAgg222
  z143 := Tryz.sizeOf222
  v143 := Tryz.zeroValue222
  t145 := Tryz.underlying224
  a145 := Tryz.isAgg224
  z145 := Tryz.sizeOf224
  v145 := Tryz.zeroValue224
  t167 := Tryz.underlying199
  a167 := Tryz.isAgg199
  z167 := Tryz.sizeOf199
  v167 := Tryz.zeroValue199
  t168 := Tryz.underlying202
  a168 := Tryz.isAgg202
  z168 := Tryz.sizeOf202
  v168 := Tryz.zeroValue202
  t171 := Tryz.underlying216
  a171 := Tryz.isAgg216
  z171 := Tryz.sizeOf216
  v171 := Tryz.zeroValue216
  t173 := Tryz.underlying218
  a173 := Tryz.isAgg218
  z173 := Tryz.sizeOf218
  v173 := Tryz.zeroValue218
  t210 := Tryz.underlying214
  a210 := Tryz.isAgg214
  z210 := Tryz.sizeOf214
  v210 := Tryz.zeroValue214
  t212 := Tryz.underlying226
  a212 := Tryz.isAgg226
  z212 := Tryz.sizeOf226
  v212 := Tryz.zeroValue226
  t213 := Tryz.underlying227
  a213 := Tryz.isAgg227
  z213 := Tryz.sizeOf227
  t232 := Tryz.underlying228
  a232 := Tryz.isAgg228
  z232 := Tryz.sizeOf228
  v232 := Tryz.zeroValue228
  t233 := Tryz.underlying229
  a233 := Tryz.isAgg229
  z233 := Tryz.sizeOf229
  v233 := Tryz.zeroValue229
  g15 := by kernel_rfl
  g16 := by kernel_rfl
  g17 := by kernel_rfl
  g18 := by kernel_rfl
  g19 := by kernel_rfl
  t80 := Tryz.underlying230
  a80 := Tryz.isAgg230
  z80 := Tryz.sizeOf230
  v80 := Tryz.zeroValue230
  i0 := by kernel_rfl
  i2 := by kernel_rfl
  i3 := by kernel_rfl
  i4 := by kernel_rfl
  i5 := by kernel_rfl
  i9 := by kernel_rfl
  i20 := by kernel_rfl
  i37 := by kernel_rfl
  i46 := by kernel_rfl
  i51 := by kernel_rfl
  i53 := by kernel_rfl
  i75 := by kernel_rfl
  i80 := by kernel_rfl
  i127 := by kernel_rfl
  i143 := by kernel_rfl
  i145 := by kernel_rfl
  i167 := by kernel_rfl
  i168 := by kernel_rfl
  i171 := by kernel_rfl
  i173 := by kernel_rfl
  i210 := by kernel_rfl
  i212 := by kernel_rfl
  i232 := by kernel_rfl
  i233 := by kernel_rfl
  m15 := by kernel_rfl
  m16 := by kernel_rfl
  m17 := by kernel_rfl
  m18 := by kernel_rfl
  m19 := by kernel_rfl
  c0 := by kernel_rfl
  c2 := by kernel_rfl
  c3 := by kernel_rfl
  c4 := by kernel_rfl
  c5 := by kernel_rfl
  c9 := by kernel_rfl
  c20 := by kernel_rfl
  c37 := by kernel_rfl
  c46 := by kernel_rfl
  c51 := by kernel_rfl
  c53 := by kernel_rfl
  c75 := by kernel_rfl
  c80 := by kernel_rfl
  c127 := by kernel_rfl
  c143 := by kernel_rfl
  c145 := by kernel_rfl
  c167 := by kernel_rfl
  c168 := by kernel_rfl
  c171 := by kernel_rfl
  c173 := by kernel_rfl
  c210 := by kernel_rfl
  c212 := by kernel_rfl
  c213 := by kernel_rfl
  c232 := by kernel_rfl
  c233 := by kernel_rfl }
open Go.RowKit in
theorem Tryz.strconv_toError_syntax (fn s : ByteArray) (base bits : Int) (ev : Value) (w : World) (hlim : s.size ≤ 281474976710656) (hv : w.cell? ⟨1, 0, none⟩ = some ev) (hev : ev = .nilIface ∨ ∃ te pe, ev = .iface te pe) :
    Calls Tryz.prog 227 #[.string fn, .string s, .int .i64 base, .int .i64 bits, .iface 199 (.int .i64 2)] w fun e w' => ∃ N, e = .returned (.iface 202 (.pointer (some ⟨N, 0, none⟩))) ∧ w.heap.size ≤ N ∧ w'.heap[N]? = some (.cells #[.string fn, .string s, ev] 214 (0, 0)) ∧ Below w.heap.size w w' := Any.strconv_toError_syntax Tryz.laysC245 fn s base bits ev w hlim hv hev
def Tryz.lays321_ren : Go.Shelf.Ren := ⟨fun | 321 => 261 | n => n, fun | 5 => 5 | n => n, fun | n => n⟩
theorem Tryz.lays321 : Go.Proofs.Lays.n321 Tryz.prog Tryz.lays321_ren := {
  mixed := by kernel_rfl
  f321 := Tryz.func261.trans (congrArg some (by kernel_rfl))
  t5 := Tryz.underlying5
  a5 := Tryz.isAgg5
  z5 := Tryz.sizeOf5
  v5 := Tryz.zeroValue5 }
open Go.RowKit in
theorem Tryz.internal_strconv_lower (c : Int) (w : World) :
    Calls Tryz.prog 261 #[.int .u8 c] w fun e w' => e = .returned (.int .u8 (bits .or .u8 c 32)) ∧ w' = w := Any.internal_strconv_lower Tryz.lays321 c w
def Tryz.lays287_ren : Go.Shelf.Ren := ⟨fun | 287 => 249 | 321 => 261 | 322 => 262 | n => n, fun | 9 => 9 | 3 => 3 | 53 => 156 | 75 => 185 | 4 => 4 | 167 => 199 | 5 => 5 | 46 => 115 | 37 => 191 | 0 => 0 | 21 => 21 | 80 => 230 | n => n, fun | n => n⟩
theorem Tryz.lays287 : Go.Proofs.Lays.n287 Tryz.prog Tryz.lays287_ren := {
  mixed := by kernel_rfl
  f287 := Tryz.func249.trans (congrArg some (by kernel_rfl))
  f321 := Tryz.func261.trans (congrArg some (by kernel_rfl))
  f322 := Tryz.func262.trans (congrArg some (by kernel_rfl))
  t0 := Tryz.underlying0
  a0 := Tryz.isAgg0
  z0 := Tryz.sizeOf0
  v0 := Tryz.zeroValue0
  t3 := Tryz.underlying3
  a3 := Tryz.isAgg3
  z3 := Tryz.sizeOf3
  v3 := Tryz.zeroValue3
  t4 := Tryz.underlying4
  a4 := Tryz.isAgg4
  z4 := Tryz.sizeOf4
  v4 := Tryz.zeroValue4
  t5 := Tryz.underlying5
  a5 := Tryz.isAgg5
  z5 := Tryz.sizeOf5
  v5 := Tryz.zeroValue5
  t9 := Tryz.underlying9
  a9 := Tryz.isAgg9
  z9 := Tryz.sizeOf9
  v9 := Tryz.zeroValue9
  t21 := Tryz.underlying21
  a21 := Tryz.isAgg21
  z21 := Tryz.sizeOf21
  v21 := Tryz.zeroValue21
  t37 := Tryz.underlying191
  a37 := Tryz.isAgg191
  z37 := Tryz.sizeOf191
  v37 := Tryz.zeroValue191
  t46 := Tryz.underlying115
  a46 := Tryz.isAgg115
  z46 := Tryz.sizeOf115
  v46 := Tryz.zeroValue115
  t53 := Tryz.underlying156
  a53 := Tryz.isAgg156
  z53 := Tryz.sizeOf156
  v53 := Tryz.zeroValue156
  t75 := Tryz.underlying185
  a75 := Tryz.isAgg185
  z75 := Tryz.sizeOf185
  v75 := Tryz.zeroValue185
  t167 := Tryz.underlying199
  a167 := Tryz.isAgg199
  z167 := Tryz.sizeOf199
  v167 := Tryz.zeroValue199 }
open Go.RowKit in
theorem Tryz.internal_strconv_ParseUint_10 (t : ByteArray) (hne : t.size ≠ 0) (hmax : t.size ≤ 9223372036854775806) (w : World) :
    Calls Tryz.prog 249 #[.string t, .int .i64 10, .int .i64 0] w fun e w' => e = .returned (Lib.uintTuple 199 (Lib.parseUint10 0 t.data.toList)) ∧ w' = Lib.bytesWorld w 5 t := Any.internal_strconv_ParseUint_10 Tryz.lays287 t hne hmax w
open Go.RowKit in
theorem Tryz.internal_strconv_ParseUint_10_any (t : ByteArray) (hmax : t.size ≤ 9223372036854775806) (w : World) :
    Calls Tryz.prog 249 #[.string t, .int .i64 10, .int .i64 0] w fun e w' => e = .returned (Lib.uintTuple 199 (Lib.parseMag t.data.toList)) ∧ (w' = w ∨ w' = Lib.bytesWorld w 5 t) := Any.internal_strconv_ParseUint_10_any Tryz.lays287 t hmax w
def Tryz.laysC247_ren : Go.Shelf.Ren := ⟨fun | 247 => 236 | 287 => 249 | 321 => 261 | 322 => 262 | n => n, fun | 9 => 9 | 3 => 3 | 2 => 2 | 75 => 185 | 4 => 4 | 167 => 199 | 5 => 5 | 53 => 156 | 175 => 210 | 46 => 115 | 37 => 191 | 0 => 0 | 21 => 21 | 80 => 230 | n => n, fun | n => n⟩
theorem Tryz.laysC247 : Go.Proofs.LaysC.n247 Tryz.prog Tryz.laysC247_ren := {
  mixed := by kernel_rfl
  f247 := Tryz.func236.trans (congrArg some (by kernel_rfl))
  f287 := Tryz.func249.trans (congrArg some (by kernel_rfl))
  f321 := Tryz.func261.trans (congrArg some (by kernel_rfl))
  f322 := Tryz.func262.trans (congrArg some (by kernel_rfl))
  t0 := Tryz.underlying0
  a0 := Tryz.isAgg0
  z0 := Tryz.sizeOf0
  v0 := Tryz.zeroValue0
  t2 := Tryz.underlying2
  a2 := Tryz.isAgg2
  z2 := Tryz.sizeOf2
  v2 := Tryz.zeroValue2
  t3 := Tryz.underlying3
  a3 := Tryz.isAgg3
  z3 := Tryz.sizeOf3
  v3 := Tryz.zeroValue3
  t4 := Tryz.underlying4
  a4 := Tryz.isAgg4
  z4 := Tryz.sizeOf4
  v4 := Tryz.zeroValue4
  t5 := Tryz.underlying5
  a5 := Tryz.isAgg5
  z5 := Tryz.sizeOf5
  v5 := Tryz.zeroValue5
  t9 := Tryz.underlying9
  a9 := Tryz.isAgg9
  z9 := Tryz.sizeOf9
  v9 := Tryz.zeroValue9
  t21 := Tryz.underlying21
  a21 := Tryz.isAgg21
  z21 := Tryz.sizeOf21
  v21 := Tryz.zeroValue21
  t37 := Tryz.underlying191
  a37 := Tryz.isAgg191
  z37 := Tryz.sizeOf191
  v37 := Tryz.zeroValue191
  t46 := Tryz.underlying115
  a46 := Tryz.isAgg115
  z46 := Tryz.sizeOf115
  v46 := Tryz.zeroValue115
  t53 := Tryz.underlying156
  a53 := Tryz.isAgg156
  z53 := Tryz.sizeOf156
  v53 := Tryz.zeroValue156
  t75 := Tryz.underlying185
  a75 := Tryz.isAgg185
  z75 := Tryz.sizeOf185
  v75 := Tryz.zeroValue185
  t167 := Tryz.underlying199
  a167 := Tryz.isAgg199
  z167 := Tryz.sizeOf199
  v167 := Tryz.zeroValue199
  t175 := Tryz.underlying210
  a175 := Tryz.isAgg210
  z175 := Tryz.sizeOf210
  v175 := Tryz.zeroValue210
  t80 := Tryz.underlying230
  a80 := Tryz.isAgg230
  z80 := Tryz.sizeOf230
  v80 := Tryz.zeroValue230
  i0 := by kernel_rfl
  i2 := by kernel_rfl
  i3 := by kernel_rfl
  i4 := by kernel_rfl
  i5 := by kernel_rfl
  i9 := by kernel_rfl
  i21 := by kernel_rfl
  i37 := by kernel_rfl
  i46 := by kernel_rfl
  i53 := by kernel_rfl
  i75 := by kernel_rfl
  i80 := by kernel_rfl
  i167 := by kernel_rfl
  i175 := by kernel_rfl
  c0 := by kernel_rfl
  c2 := by kernel_rfl
  c3 := by kernel_rfl
  c4 := by kernel_rfl
  c5 := by kernel_rfl
  c9 := by kernel_rfl
  c21 := by kernel_rfl
  c37 := by kernel_rfl
  c46 := by kernel_rfl
  c53 := by kernel_rfl
  c75 := by kernel_rfl
  c80 := by kernel_rfl
  c167 := by kernel_rfl
  c175 := by kernel_rfl }
open Go.RowKit in
theorem Tryz.internal_strconv_ParseInt_10 (s : ByteArray) (hne : s.size ≠ 0) (hmax : s.size ≤ 9223372036854775806) (w : World) :
    Calls Tryz.prog 236 #[.string s, .int .i64 10, .int .i64 0] w fun e w' => e = .returned (Lib.intTuple 199 (Lib.atoiSat s.data.toList) (Lib.atoiAll s.data.toList)) ∧ (w' = w ∨ ∃ t, w' = Lib.bytesWorld w 5 t) := Any.internal_strconv_ParseInt_10 Tryz.laysC247 s hne hmax w
def Tryz.laysC244_ren : Go.Shelf.Ren := ⟨fun | 244 => 226 | 247 => 236 | 287 => 249 | 321 => 261 | 322 => 262 | n => n, fun | 9 => 9 | 3 => 3 | 75 => 185 | 4 => 4 | 5 => 5 | 167 => 199 | 37 => 191 | 0 => 0 | 85 => 200 | 2 => 2 | 53 => 156 | 175 => 210 | 46 => 115 | 21 => 21 | 80 => 230 | n => n, fun | n => n⟩
theorem Tryz.laysC244 : Go.Proofs.LaysC.n244 Tryz.prog Tryz.laysC244_ren := {
  mixed := by kernel_rfl
  f244 := Tryz.func226.trans (congrArg some (by kernel_rfl))
  f247 := Tryz.func236.trans (congrArg some (by kernel_rfl))
  f287 := Tryz.func249.trans (congrArg some (by kernel_rfl))
  f321 := Tryz.func261.trans (congrArg some (by kernel_rfl))
  f322 := Tryz.func262.trans (congrArg some (by kernel_rfl))
  t0 := Tryz.underlying0
  a0 := Tryz.isAgg0
  z0 := Tryz.sizeOf0
  v0 := Tryz.zeroValue0
  t2 := Tryz.underlying2
  a2 := Tryz.isAgg2
  z2 := Tryz.sizeOf2
  v2 := Tryz.zeroValue2
  t3 := Tryz.underlying3
  a3 := Tryz.isAgg3
  z3 := Tryz.sizeOf3
  v3 := Tryz.zeroValue3
  t4 := Tryz.underlying4
  a4 := Tryz.isAgg4
  z4 := Tryz.sizeOf4
  v4 := Tryz.zeroValue4
  t5 := Tryz.underlying5
  a5 := Tryz.isAgg5
  z5 := Tryz.sizeOf5
  v5 := Tryz.zeroValue5
  t9 := Tryz.underlying9
  a9 := Tryz.isAgg9
  z9 := Tryz.sizeOf9
  v9 := Tryz.zeroValue9
  t21 := Tryz.underlying21
  a21 := Tryz.isAgg21
  z21 := Tryz.sizeOf21
  v21 := Tryz.zeroValue21
  t37 := Tryz.underlying191
  a37 := Tryz.isAgg191
  z37 := Tryz.sizeOf191
  v37 := Tryz.zeroValue191
  t46 := Tryz.underlying115
  a46 := Tryz.isAgg115
  z46 := Tryz.sizeOf115
  v46 := Tryz.zeroValue115
  t53 := Tryz.underlying156
  a53 := Tryz.isAgg156
  z53 := Tryz.sizeOf156
  v53 := Tryz.zeroValue156
  t75 := Tryz.underlying185
  a75 := Tryz.isAgg185
  z75 := Tryz.sizeOf185
  v75 := Tryz.zeroValue185
  t85 := Tryz.underlying200
  a85 := Tryz.isAgg200
  z85 := Tryz.sizeOf200
  v85 := Tryz.zeroValue200
  t167 := Tryz.underlying199
  a167 := Tryz.isAgg199
  z167 := Tryz.sizeOf199
  v167 := Tryz.zeroValue199
  t175 := Tryz.underlying210
  a175 := Tryz.isAgg210
  z175 := Tryz.sizeOf210
  v175 := Tryz.zeroValue210
  t80 := Tryz.underlying230
  a80 := Tryz.isAgg230
  z80 := Tryz.sizeOf230
  v80 := Tryz.zeroValue230
  i0 := by kernel_rfl
  i2 := by kernel_rfl
  i3 := by kernel_rfl
  i4 := by kernel_rfl
  i5 := by kernel_rfl
  i9 := by kernel_rfl
  i21 := by kernel_rfl
  i37 := by kernel_rfl
  i46 := by kernel_rfl
  i53 := by kernel_rfl
  i75 := by kernel_rfl
  i80 := by kernel_rfl
  i85 := by kernel_rfl
  i167 := by kernel_rfl
  i175 := by kernel_rfl
  c0 := by kernel_rfl
  c2 := by kernel_rfl
  c3 := by kernel_rfl
  c4 := by kernel_rfl
  c5 := by kernel_rfl
  c9 := by kernel_rfl
  c21 := by kernel_rfl
  c37 := by kernel_rfl
  c46 := by kernel_rfl
  c53 := by kernel_rfl
  c75 := by kernel_rfl
  c80 := by kernel_rfl
  c85 := by kernel_rfl
  c167 := by kernel_rfl
  c175 := by kernel_rfl }
open Go.RowKit in
theorem Tryz.internal_strconv_Atoi_long (s : ByteArray) (h19 : 19 ≤ s.size) (hmax : s.size ≤ 9223372036854775806) (w : World) :
    Calls Tryz.prog 226 #[.string s] w fun e w' => e = .returned (Lib.intTuple 199 (Lib.atoiSat s.data.toList) (Lib.atoiAll s.data.toList)) ∧ (w' = w ∨ ∃ t, w' = Lib.bytesWorld w 5 t) := Any.internal_strconv_Atoi_long Tryz.laysC244 s h19 hmax w
open Go.RowKit in
theorem Tryz.internal_strconv_Atoi_all (s : ByteArray) (hmax : s.size ≤ 9223372036854775806) (w : World) :
    Calls Tryz.prog 226 #[.string s] w fun e w' => e = .returned (Lib.intTuple 199 (Lib.atoiSat s.data.toList) (Lib.atoiAll s.data.toList)) ∧ (w' = w ∨ ∃ t, w' = Lib.bytesWorld w 5 t) := Any.internal_strconv_Atoi_all Tryz.laysC244 s hmax w
def Tryz.laysM280_ren : Go.Shelf.Ren := ⟨fun | 280 => 238 | 316 => 250 | n => n, fun | 9 => 9 | 168 => 202 | 75 => 185 | 210 => 214 | 3 => 3 | 4 => 4 | 37 => 191 | 0 => 0 | 127 => 221 | 80 => 230 | 5 => 5 | n => n, fun | 16 => 2 | n => n⟩
theorem Tryz.laysM280 : Go.Proofs.LaysM.n280 Tryz.prog Tryz.laysM280_ren := {
  mixed := by kernel_rfl
  f280 := Tryz.func238.trans (congrArg some (by kernel_rfl))
  f316 := Tryz.func250.trans (congrArg some (by kernel_rfl))
  t0 := Tryz.underlying0
  a0 := Tryz.isAgg0
  z0 := Tryz.sizeOf0
  v0 := Tryz.zeroValue0
  t3 := Tryz.underlying3
  a3 := Tryz.isAgg3
  z3 := Tryz.sizeOf3
  v3 := Tryz.zeroValue3
  t4 := Tryz.underlying4
  a4 := Tryz.isAgg4
  z4 := Tryz.sizeOf4
  v4 := Tryz.zeroValue4
  t9 := Tryz.underlying9
  a9 := Tryz.isAgg9
  z9 := Tryz.sizeOf9
  v9 := Tryz.zeroValue9
  t37 := Tryz.underlying191
  a37 := Tryz.isAgg191
  z37 := Tryz.sizeOf191
  v37 := Tryz.zeroValue191
  t75 := Tryz.underlying185
  a75 := Tryz.isAgg185
  z75 := Tryz.sizeOf185
  v75 := Tryz.zeroValue185
  t127 := Tryz.underlying221
  a127 := Tryz.isAgg221
  z127 := Tryz.sizeOf221
  v127 := Tryz.zeroValue221
  t168 := Tryz.underlying202
  a168 := Tryz.isAgg202
  z168 := Tryz.sizeOf202
  v168 := Tryz.zeroValue202
  t210 := Tryz.underlying214
  a210 := Tryz.isAgg214
  z210 := Tryz.sizeOf214
  v210 := Tryz.zeroValue214
  g16 := by kernel_rfl
  t5 := Tryz.underlying5
  a5 := Tryz.isAgg5
  z5 := Tryz.sizeOf5
  v5 := Tryz.zeroValue5
  t80 := Tryz.underlying230
  a80 := Tryz.isAgg230
  z80 := Tryz.sizeOf230
  v80 := Tryz.zeroValue230
  i0 := by kernel_rfl
  i3 := by kernel_rfl
  i4 := by kernel_rfl
  i5 := by kernel_rfl
  i9 := by kernel_rfl
  i37 := by kernel_rfl
  i75 := by kernel_rfl
  i80 := by kernel_rfl
  i127 := by kernel_rfl
  i168 := by kernel_rfl
  i210 := by kernel_rfl
  m16 := by kernel_rfl }
open Go.RowKit in
theorem Tryz.strconv_rangeError (fn s : ByteArray) (ev : Value) (w : World) (hlim : s.size ≤ 281474976710656) (hv : w.cell? ⟨2, 0, none⟩ = some ev) (hev : ev = .nilIface ∨ ∃ te pe, ev = .iface te pe) :
    Calls Tryz.prog 238 #[.string fn, .string s] w fun e w' => ∃ N, e = .returned (.pointer (some ⟨N, 0, none⟩)) ∧ w.heap.size ≤ N ∧ w'.heap[N]? = some (.cells #[.string fn, .string s, ev] 214 (0, 0)) ∧ Below w.heap.size w w' := Any.strconv_rangeError Tryz.laysM280 fn s ev w hlim hv hev
open Go.RowKit in
theorem Tryz.strconv_toError_range (fn s : ByteArray) (base bits : Int) (ev : Value) (w : World) (hlim : s.size ≤ 281474976710656) (hv : w.cell? ⟨2, 0, none⟩ = some ev) (hev : ev = .nilIface ∨ ∃ te pe, ev = .iface te pe) :
    Calls Tryz.prog 227 #[.string fn, .string s, .int .i64 base, .int .i64 bits, .iface 199 (.int .i64 1)] w fun e w' => ∃ N, e = .returned (.iface 202 (.pointer (some ⟨N, 0, none⟩))) ∧ w.heap.size ≤ N ∧ w'.heap[N]? = some (.cells #[.string fn, .string s, ev] 214 (0, 0)) ∧ Below w.heap.size w w' := Any.strconv_toError_range Tryz.laysC245 fn s base bits ev w hlim hv hev
def Tryz.laysC172_ren : Go.Shelf.Ren := ⟨fun | 172 => 211 | 244 => 226 | 245 => 227 | 247 => 236 | 279 => 237 | 280 => 238 | 281 => 239 | 282 => 240 | 287 => 249 | 316 => 250 | 171 => 212 | 205 => 251 | 321 => 261 | 322 => 262 | 243 => 228 | 246 => 241 | 283 => 252 | 284 => 253 | 285 => 254 | 286 => 255 | 129 => 164 | 317 => 263 | 318 => 264 | 319 => 265 | 320 => 266 | 337 => 269 | 338 => 270 | n => n, fun | 9 => 9 | 3 => 3 | 75 => 185 | 76 => 186 | 4 => 4 | 5 => 5 | 167 => 199 | 37 => 191 | 0 => 0 | 85 => 200 | 2 => 2 | 168 => 202 | 53 => 156 | 175 => 210 | 46 => 115 | 210 => 214 | 127 => 221 | 145 => 224 | 143 => 222 | 21 => 21 | 171 => 216 | 173 => 218 | 212 => 226 | 51 => 154 | 20 => 20 | 213 => 227 | 232 => 228 | 233 => 229 | 80 => 230 | n => n, fun | 15 => 1 | 16 => 2 | 17 => 3 | 18 => 4 | 19 => 5 | n => n⟩
theorem Tryz.laysC172 : Go.Proofs.LaysC.n172 Tryz.prog Tryz.laysC172_ren := {
  mixed := by kernel_rfl
  f129 := Tryz.func164.trans (congrArg some (by kernel_rfl))
  f171 := Tryz.func212.trans (congrArg some (by kernel_rfl))
  f172 := Tryz.func211.trans (congrArg some (by kernel_rfl))
  f205 := Tryz.func251.trans (congrArg some (by kernel_rfl))
  f243 := Tryz.func228.trans (congrArg some (by kernel_rfl))
  f244 := Tryz.func226.trans (congrArg some (by kernel_rfl))
  f245 := Tryz.func227.trans (congrArg some (by kernel_rfl))
  f246 := Tryz.func241.trans (congrArg some (by kernel_rfl))
  f247 := Tryz.func236.trans (congrArg some (by kernel_rfl))
  f279 := Tryz.func237.trans (congrArg some (by kernel_rfl))
  f280 := Tryz.func238.trans (congrArg some (by kernel_rfl))
  f281 := Tryz.func239.trans (congrArg some (by kernel_rfl))
  f282 := Tryz.func240.trans (congrArg some (by kernel_rfl))
  f283 := Tryz.func252.trans (congrArg some (by kernel_rfl))
  f284 := Tryz.func253.trans (congrArg some (by kernel_rfl))
  f285 := Tryz.func254.trans (congrArg some (by kernel_rfl))
  f286 := Tryz.func255.trans (congrArg some (by kernel_rfl))
  f287 := Tryz.func249.trans (congrArg some (by kernel_rfl))
  f316 := Tryz.func250.trans (congrArg some (by kernel_rfl))
  f317 := Tryz.func263.trans (congrArg some (by kernel_rfl))
  f318 := Tryz.func264.trans (congrArg some (by kernel_rfl))
  f319 := Tryz.func265.trans (congrArg some (by kernel_rfl))
  f320 := Tryz.func266.trans (congrArg some (by kernel_rfl))
  f321 := Tryz.func261.trans (congrArg some (by kernel_rfl))
  f322 := Tryz.func262.trans (congrArg some (by kernel_rfl))
  f337 := Tryz.func269.trans (congrArg some (by kernel_rfl))
  f338 := Tryz.func270.trans (congrArg some (by kernel_rfl))
  t0 := Tryz.underlying0
  a0 := Tryz.isAgg0
  z0 := Tryz.sizeOf0
  v0 := Tryz.zeroValue0
  t2 := Tryz.underlying2
  a2 := Tryz.isAgg2
  z2 := Tryz.sizeOf2
  v2 := Tryz.zeroValue2
  t3 := Tryz.underlying3
  a3 := Tryz.isAgg3
  z3 := Tryz.sizeOf3
  v3 := Tryz.zeroValue3
  t4 := Tryz.underlying4
  a4 := Tryz.isAgg4
  z4 := Tryz.sizeOf4
  v4 := Tryz.zeroValue4
  t5 := Tryz.underlying5
  a5 := Tryz.isAgg5
  z5 := Tryz.sizeOf5
  v5 := Tryz.zeroValue5
  t9 := Tryz.underlying9
  a9 := Tryz.isAgg9
  z9 := Tryz.sizeOf9
  v9 := Tryz.zeroValue9
  t20 := Tryz.underlying20
  a20 := Tryz.isAgg20
  z20 := Tryz.sizeOf20
  v20 := Tryz.zeroValue20
  t21 := Tryz.underlying21
  a21 := Tryz.isAgg21
  z21 := Tryz.sizeOf21
  v21 := Tryz.zeroValue21
  t37 := Tryz.underlying191
  a37 := Tryz.isAgg191
  z37 := Tryz.sizeOf191
  v37 := Tryz.zeroValue191
  t46 := Tryz.underlying115
  a46 := Tryz.isAgg115
  z46 := Tryz.sizeOf115
  v46 := Tryz.zeroValue115
  t51 := Tryz.underlying154
  a51 := Tryz.isAgg154
  z51 := Tryz.sizeOf154
  v51 := Tryz.zeroValue154
  t53 := Tryz.underlying156
  a53 := Tryz.isAgg156
  z53 := Tryz.sizeOf156
  v53 := Tryz.zeroValue156
  t75 := Tryz.underlying185
  a75 := Tryz.isAgg185
  z75 := Tryz.sizeOf185
  v75 := Tryz.zeroValue185
  t76 := Tryz.underlying186
  a76 := Tryz.isAgg186
  z76 := Tryz.sizeOf186
  v76 := Tryz.zeroValue186
  t85 := Tryz.underlying200
  a85 := Tryz.isAgg200
  z85 := Tryz.sizeOf200
  v85 := Tryz.zeroValue200
  t127 := Tryz.underlying221
  a127 := Tryz.isAgg221
  z127 := Tryz.sizeOf221
  v127 := Tryz.zeroValue221
  t143 := Tryz.underlying222
  a143 := Tryz.isAgg222
  z143 := Tryz.sizeOf222
  v143 := Tryz.zeroValue222
  t145 := Tryz.underlying224
  a145 := Tryz.isAgg224
  z145 := Tryz.sizeOf224
  v145 := Tryz.zeroValue224
  t167 := Tryz.underlying199
  a167 := Tryz.isAgg199
  z167 := Tryz.sizeOf199
  v167 := Tryz.zeroValue199
  t168 := Tryz.underlying202
  a168 := Tryz.isAgg202
  z168 := Tryz.sizeOf202
  v168 := Tryz.zeroValue202
  t171 := Tryz.underlying216
  a171 := Tryz.isAgg216
  z171 := Tryz.sizeOf216
  v171 := Tryz.zeroValue216
  t173 := Tryz.underlying218
  a173 := Tryz.isAgg218
  z173 := Tryz.sizeOf218
  v173 := Tryz.zeroValue218
  t175 := Tryz.underlying210
  a175 := Tryz.isAgg210
  z175 := Tryz.sizeOf210
  v175 := Tryz.zeroValue210
  t210 := Tryz.underlying214
  a210 := Tryz.isAgg214
  z210 := Tryz.sizeOf214
  v210 := Tryz.zeroValue214
  t212 := Tryz.underlying226
  a212 := Tryz.isAgg226
  z212 := Tryz.sizeOf226
  v212 := Tryz.zeroValue226
  t213 := Tryz.underlying227
  a213 := Tryz.isAgg227
  z213 := Tryz.sizeOf227
  t232 := Tryz.underlying228
  a232 := Tryz.isAgg228
  z232 := Tryz.sizeOf228
  v232 := Tryz.zeroValue228
  t233 := Tryz.underlying229
  a233 := Tryz.isAgg229
  z233 := Tryz.sizeOf229
  v233 := Tryz.zeroValue229
  g15 := by kernel_rfl
  g16 := by kernel_rfl
  g17 := by kernel_rfl
  g18 := by kernel_rfl
  g19 := by kernel_rfl
  t80 := Tryz.underlying230
  a80 := Tryz.isAgg230
  z80 := Tryz.sizeOf230
  v80 := Tryz.zeroValue230
  i0 := by kernel_rfl
  i2 := by kernel_rfl
  i3 := by kernel_rfl
  i4 := by kernel_rfl
  i5 := by kernel_rfl
  i9 := by kernel_rfl
  i20 := by kernel_rfl
  i21 := by kernel_rfl
  i37 := by kernel_rfl
  i46 := by kernel_rfl
  i51 := by kernel_rfl
  i53 := by kernel_rfl
  i75 := by kernel_rfl
  i76 := by kernel_rfl
  i80 := by kernel_rfl
  i85 := by kernel_rfl
  i127 := by kernel_rfl
  i143 := by kernel_rfl
  i145 := by kernel_rfl
  i167 := by kernel_rfl
  i168 := by kernel_rfl
  i171 := by kernel_rfl
  i173 := by kernel_rfl
  i175 := by kernel_rfl
  i210 := by kernel_rfl
  i212 := by kernel_rfl
  i232 := by kernel_rfl
  i233 := by kernel_rfl
  m15 := by kernel_rfl
  m16 := by kernel_rfl
  m17 := by kernel_rfl
  m18 := by kernel_rfl
  m19 := by kernel_rfl
  c0 := by kernel_rfl
  c2 := by kernel_rfl
  c3 := by kernel_rfl
  c4 := by kernel_rfl
  c5 := by kernel_rfl
  c9 := by kernel_rfl
  c20 := by kernel_rfl
  c21 := by kernel_rfl
  c37 := by kernel_rfl
  c46 := by kernel_rfl
  c51 := by kernel_rfl
  c53 := by kernel_rfl
  c75 := by kernel_rfl
  c76 := by kernel_rfl
  c80 := by kernel_rfl
  c85 := by kernel_rfl
  c127 := by kernel_rfl
  c143 := by kernel_rfl
  c145 := by kernel_rfl
  c167 := by kernel_rfl
  c168 := by kernel_rfl
  c171 := by kernel_rfl
  c173 := by kernel_rfl
  c175 := by kernel_rfl
  c210 := by kernel_rfl
  c212 := by kernel_rfl
  c213 := by kernel_rfl
  c232 := by kernel_rfl
  c233 := by kernel_rfl }
open Go.RowKit in
theorem Tryz.strconv_Atoi_ok (s : ByteArray) (hmax : s.size ≤ 9223372036854775806) (v : Int) (h : Lib.atoiAll s.data.toList = .ok v) (w : World) :
    Calls Tryz.prog 211 #[.string s] w fun e w' => e = .returned (.tuple #[.int .i64 v, .nilIface]) ∧ (w' = w ∨ ∃ t, w' = Lib.bytesWorld w 5 t) := Any.strconv_Atoi_ok Tryz.laysC172 s hmax v h w
open Go.RowKit in
theorem Tryz.strconv_Atoi_syntax (s : ByteArray) (hlim : s.size ≤ 281474976710656) (h : (∀ v, Lib.atoiAll s.data.toList ≠ .ok v) ∧ Lib.atoiAll s.data.toList ≠ .range) (ev : Value) (w : World) (hv : w.cell? ⟨1, 0, none⟩ = some ev) (hev : ev = .nilIface ∨ ∃ te pe, ev = .iface te pe) :
    Calls Tryz.prog 211 #[.string s] w fun e w' => ∃ N, e = .returned (.tuple #[.int .i64 (0), .iface 202 (.pointer (some ⟨N, 0, none⟩))]) ∧ w.heap.size ≤ N ∧ w'.heap[N]? = some (.cells #[.string ⟨#[65, 116, 111, 105]⟩, .string s, ev] 214 (0, 0)) ∧ Below w.heap.size w w' := Any.strconv_Atoi_syntax Tryz.laysC172 s hlim (by cases hx : Lib.atoiAll s.data.toList <;> simp_all) ev w hv hev
open Go.RowKit in
theorem Tryz.strconv_Atoi_range (s : ByteArray) (hlim : s.size ≤ 281474976710656) (h : Lib.atoiAll s.data.toList = .range) (ev : Value) (w : World) (hv : w.cell? ⟨2, 0, none⟩ = some ev) (hev : ev = .nilIface ∨ ∃ te pe, ev = .iface te pe) :
    Calls Tryz.prog 211 #[.string s] w fun e w' => ∃ N, e = .returned (.tuple #[.int .i64 (Lib.atoiSat s.data.toList), .iface 202 (.pointer (some ⟨N, 0, none⟩))]) ∧ w.heap.size ≤ N ∧ w'.heap[N]? = some (.cells #[.string ⟨#[65, 116, 111, 105]⟩, .string s, ev] 214 (0, 0)) ∧ Below w.heap.size w w' := Any.strconv_Atoi_range Tryz.laysC172 s hlim h ev w hv hev
def Tryz.lays217_ren : Go.Shelf.Ren := ⟨fun | 217 => 193 | 266 => 219 | n => n, fun | 9 => 9 | 5 => 5 | 3 => 3 | n => n, fun | n => n⟩
theorem Tryz.lays217 : Go.Proofs.Lays.n217 Tryz.prog Tryz.lays217_ren := {
  mixed := by kernel_rfl
  f217 := Tryz.func193.trans (congrArg some (by kernel_rfl))
  f266 := Tryz.func219.trans (congrArg some (by kernel_rfl))
  t3 := Tryz.underlying3
  a3 := Tryz.isAgg3
  z3 := Tryz.sizeOf3
  v3 := Tryz.zeroValue3
  t5 := Tryz.underlying5
  a5 := Tryz.isAgg5
  z5 := Tryz.sizeOf5
  v5 := Tryz.zeroValue5
  t9 := Tryz.underlying9
  a9 := Tryz.isAgg9
  z9 := Tryz.sizeOf9
  v9 := Tryz.zeroValue9 }
open Go.RowKit Go.Lib in
theorem Tryz.stringslite_IndexByte (s : ByteArray) (c : Int) (w : World) :
    Calls Tryz.prog 193 #[.string s, .int .u8 c] w fun e w' => e = .returned (.int .i64 (Lib.indexByte s.data.toList c.toNat.toUInt8)) ∧ w' = w := Any.stringslite_IndexByte Tryz.lays217 s c w
def Tryz.lays224_ren : Go.Shelf.Ren := ⟨fun | 224 => 234 | n => n, fun | 3 => 3 | n => n, fun | n => n⟩
theorem Tryz.lays224 : Go.Proofs.Lays.n224 Tryz.prog Tryz.lays224_ren := {
  mixed := by kernel_rfl
  f224 := Tryz.func234.trans (congrArg some (by kernel_rfl))
  t3 := Tryz.underlying3
  a3 := Tryz.isAgg3
  z3 := Tryz.sizeOf3
  v3 := Tryz.zeroValue3 }
open Go.RowKit Go.Lib in
theorem Tryz.bytealg_Cutover (n : Int) (h0 : 0 ≤ n) (h1 : n < 4611686018427387904) (w : World) :
    Calls Tryz.prog 234 #[.int .i64 n] w fun e w' => e = .returned (.int .i64 ((n + 16) / 8)) ∧ w' = w := Any.bytealg_Cutover Tryz.lays224 n h0 h1 w
def Tryz.lays314_ren : Go.Shelf.Ren := ⟨fun | 314 => 248 | n => n, fun | 9 => 9 | 51 => 154 | 3 => 3 | 4 => 4 | 5 => 5 | 46 => 115 | n => n, fun | n => n⟩
theorem Tryz.lays314 : Go.Proofs.Lays.n314 Tryz.prog Tryz.lays314_ren := {
  mixed := by kernel_rfl
  f314 := Tryz.func248.trans (congrArg some (by kernel_rfl))
  t3 := Tryz.underlying3
  a3 := Tryz.isAgg3
  z3 := Tryz.sizeOf3
  v3 := Tryz.zeroValue3
  t4 := Tryz.underlying4
  a4 := Tryz.isAgg4
  z4 := Tryz.sizeOf4
  v4 := Tryz.zeroValue4
  t5 := Tryz.underlying5
  a5 := Tryz.isAgg5
  z5 := Tryz.sizeOf5
  v5 := Tryz.zeroValue5
  t9 := Tryz.underlying9
  a9 := Tryz.isAgg9
  z9 := Tryz.sizeOf9
  v9 := Tryz.zeroValue9
  t46 := Tryz.underlying115
  a46 := Tryz.isAgg115
  z46 := Tryz.sizeOf115
  v46 := Tryz.zeroValue115
  t51 := Tryz.underlying154
  a51 := Tryz.isAgg154
  z51 := Tryz.sizeOf154
  v51 := Tryz.zeroValue154 }
open Go.RowKit Go.Lib in
theorem Tryz.bytealg_hashStr (sep : ByteArray) (hs : sep.size < 4294967281) (w : World) :
    Calls Tryz.prog 248 #[.string sep] w fun e w' => e = .returned (.tuple #[.int .u32 (RK.H sep.data.toList % 4294967296), .int .u32 (16777619 ^ sep.size % 4294967296)]) ∧ w' = w := Any.bytealg_hashStr Tryz.lays314 sep hs w
def Tryz.lays267_ren : Go.Shelf.Ren := ⟨fun | 267 => 235 | 314 => 248 | n => n, fun | 9 => 9 | 3 => 3 | 146 => 208 | 51 => 154 | 4 => 4 | 5 => 5 | 46 => 115 | n => n, fun | n => n⟩
theorem Tryz.lays267 : Go.Proofs.Lays.n267 Tryz.prog Tryz.lays267_ren := {
  mixed := by kernel_rfl
  f267 := Tryz.func235.trans (congrArg some (by kernel_rfl))
  f314 := Tryz.func248.trans (congrArg some (by kernel_rfl))
  t3 := Tryz.underlying3
  a3 := Tryz.isAgg3
  z3 := Tryz.sizeOf3
  v3 := Tryz.zeroValue3
  t4 := Tryz.underlying4
  a4 := Tryz.isAgg4
  z4 := Tryz.sizeOf4
  v4 := Tryz.zeroValue4
  t5 := Tryz.underlying5
  a5 := Tryz.isAgg5
  z5 := Tryz.sizeOf5
  v5 := Tryz.zeroValue5
  t9 := Tryz.underlying9
  a9 := Tryz.isAgg9
  z9 := Tryz.sizeOf9
  v9 := Tryz.zeroValue9
  t46 := Tryz.underlying115
  a46 := Tryz.isAgg115
  z46 := Tryz.sizeOf115
  v46 := Tryz.zeroValue115
  t51 := Tryz.underlying154
  a51 := Tryz.isAgg154
  z51 := Tryz.sizeOf154
  v51 := Tryz.zeroValue154
  t146 := Tryz.underlying208
  a146 := Tryz.isAgg208
  z146 := Tryz.sizeOf208
  v146 := Tryz.zeroValue208 }
open Go.RowKit Go.Lib in
theorem Tryz.bytealg_IndexRabinKarp (s sep : ByteArray) (h1 : 1 ≤ sep.size) (h2 : sep.size ≤ s.size) (hs : s.size < 4294967281) (w : World) :
    Calls Tryz.prog 235 #[.string s, .string sep] w fun e w' => e = .returned (.int .i64 (Lib.index s.data.toList sep.data.toList)) ∧ w' = w := Any.bytealg_IndexRabinKarp Tryz.lays267 s sep h1 h2 hs w
def Tryz.lays219_ren : Go.Shelf.Ren := ⟨fun | 219 => 220 | 217 => 193 | 225 => 233 | 224 => 234 | 267 => 235 | 266 => 219 | 314 => 248 | n => n, fun | 9 => 9 | 3 => 3 | 4 => 4 | 5 => 5 | 46 => 115 | 146 => 208 | 51 => 154 | n => n, fun | 1 => 0 | n => n⟩
theorem Tryz.lays219 : Go.Proofs.Lays.n219 Tryz.prog Tryz.lays219_ren := {
  mixed := by kernel_rfl
  f217 := Tryz.func193.trans (congrArg some (by kernel_rfl))
  f219 := Tryz.func220.trans (congrArg some (by kernel_rfl))
  f224 := Tryz.func234.trans (congrArg some (by kernel_rfl))
  f225 := Tryz.func233.trans (congrArg some (by kernel_rfl))
  f266 := Tryz.func219.trans (congrArg some (by kernel_rfl))
  f267 := Tryz.func235.trans (congrArg some (by kernel_rfl))
  f314 := Tryz.func248.trans (congrArg some (by kernel_rfl))
  t3 := Tryz.underlying3
  a3 := Tryz.isAgg3
  z3 := Tryz.sizeOf3
  v3 := Tryz.zeroValue3
  t4 := Tryz.underlying4
  a4 := Tryz.isAgg4
  z4 := Tryz.sizeOf4
  v4 := Tryz.zeroValue4
  t5 := Tryz.underlying5
  a5 := Tryz.isAgg5
  z5 := Tryz.sizeOf5
  v5 := Tryz.zeroValue5
  t9 := Tryz.underlying9
  a9 := Tryz.isAgg9
  z9 := Tryz.sizeOf9
  v9 := Tryz.zeroValue9
  t46 := Tryz.underlying115
  a46 := Tryz.isAgg115
  z46 := Tryz.sizeOf115
  v46 := Tryz.zeroValue115
  t51 := Tryz.underlying154
  a51 := Tryz.isAgg154
  z51 := Tryz.sizeOf154
  v51 := Tryz.zeroValue154
  t146 := Tryz.underlying208
  a146 := Tryz.isAgg208
  z146 := Tryz.sizeOf208
  v146 := Tryz.zeroValue208
  g1 := by kernel_rfl }
open Go.RowKit Go.Lib in
theorem Tryz.stringslite_Index_one (s : ByteArray) (c : UInt8) (w : World) :
    Calls Tryz.prog 220 #[.string s, .string ⟨#[c]⟩] w fun e w' => e = .returned (.int .i64 (Lib.indexByte s.data.toList c)) ∧ w' = w := Any.stringslite_Index_one Tryz.lays219 s c w
open Go.RowKit Go.Lib in
theorem Tryz.stringslite_Index (s sub : ByteArray) (m : Int) (w : World) (hs : s.size < 4294967281) (hm : w.cell? ⟨0, 0, none⟩ = some (.int .i64 m)) :
    Calls Tryz.prog 220 #[.string s, .string sub] w fun e w' => e = .returned (.int .i64 (Lib.index s.data.toList sub.data.toList)) ∧ w' = w := Any.stringslite_Index Tryz.lays219 s sub m w hs hm
def Tryz.lays143_ren : Go.Shelf.Ren := ⟨fun | 143 => 194 | 219 => 220 | 217 => 193 | 225 => 233 | 224 => 234 | 267 => 235 | 266 => 219 | 314 => 248 | n => n, fun | 9 => 9 | 3 => 3 | 4 => 4 | 5 => 5 | 46 => 115 | 146 => 208 | 51 => 154 | n => n, fun | 1 => 0 | n => n⟩
theorem Tryz.lays143 : Go.Proofs.Lays.n143 Tryz.prog Tryz.lays143_ren := {
  mixed := by kernel_rfl
  f143 := Tryz.func194.trans (congrArg some (by kernel_rfl))
  f217 := Tryz.func193.trans (congrArg some (by kernel_rfl))
  f219 := Tryz.func220.trans (congrArg some (by kernel_rfl))
  f224 := Tryz.func234.trans (congrArg some (by kernel_rfl))
  f225 := Tryz.func233.trans (congrArg some (by kernel_rfl))
  f266 := Tryz.func219.trans (congrArg some (by kernel_rfl))
  f267 := Tryz.func235.trans (congrArg some (by kernel_rfl))
  f314 := Tryz.func248.trans (congrArg some (by kernel_rfl))
  t3 := Tryz.underlying3
  a3 := Tryz.isAgg3
  z3 := Tryz.sizeOf3
  v3 := Tryz.zeroValue3
  t4 := Tryz.underlying4
  a4 := Tryz.isAgg4
  z4 := Tryz.sizeOf4
  v4 := Tryz.zeroValue4
  t5 := Tryz.underlying5
  a5 := Tryz.isAgg5
  z5 := Tryz.sizeOf5
  v5 := Tryz.zeroValue5
  t9 := Tryz.underlying9
  a9 := Tryz.isAgg9
  z9 := Tryz.sizeOf9
  v9 := Tryz.zeroValue9
  t46 := Tryz.underlying115
  a46 := Tryz.isAgg115
  z46 := Tryz.sizeOf115
  v46 := Tryz.zeroValue115
  t51 := Tryz.underlying154
  a51 := Tryz.isAgg154
  z51 := Tryz.sizeOf154
  v51 := Tryz.zeroValue154
  t146 := Tryz.underlying208
  a146 := Tryz.isAgg208
  z146 := Tryz.sizeOf208
  v146 := Tryz.zeroValue208
  g1 := by kernel_rfl }
open Go.RowKit Go.Lib in
theorem Tryz.strings_Index_one (s : ByteArray) (c : UInt8) (w : World) :
    Calls Tryz.prog 194 #[.string s, .string ⟨#[c]⟩] w fun e w' => e = .returned (.int .i64 (Lib.indexByte s.data.toList c)) ∧ w' = w := Any.strings_Index_one Tryz.lays143 s c w
open Go.RowKit Go.Lib in
theorem Tryz.strings_Index (s sub : ByteArray) (m : Int) (w : World) (hs : s.size < 4294967281) (hm : w.cell? ⟨0, 0, none⟩ = some (.int .i64 m)) :
    Calls Tryz.prog 194 #[.string s, .string sub] w fun e w' => e = .returned (.int .i64 (Lib.index s.data.toList sub.data.toList)) ∧ w' = w := Any.strings_Index Tryz.lays143 s sub m w hs hm
def Tryz.lays144_ren : Go.Shelf.Ren := ⟨fun | 144 => 139 | 143 => 194 | 219 => 220 | 217 => 193 | 225 => 233 | 224 => 234 | 267 => 235 | 266 => 219 | 314 => 248 | n => n, fun | 9 => 9 | 4 => 4 | 3 => 3 | 5 => 5 | 46 => 115 | 146 => 208 | 51 => 154 | n => n, fun | 1 => 0 | n => n⟩
theorem Tryz.lays144 : Go.Proofs.Lays.n144 Tryz.prog Tryz.lays144_ren := {
  mixed := by kernel_rfl
  f143 := Tryz.func194.trans (congrArg some (by kernel_rfl))
  f144 := Tryz.func139.trans (congrArg some (by kernel_rfl))
  f217 := Tryz.func193.trans (congrArg some (by kernel_rfl))
  f219 := Tryz.func220.trans (congrArg some (by kernel_rfl))
  f224 := Tryz.func234.trans (congrArg some (by kernel_rfl))
  f225 := Tryz.func233.trans (congrArg some (by kernel_rfl))
  f266 := Tryz.func219.trans (congrArg some (by kernel_rfl))
  f267 := Tryz.func235.trans (congrArg some (by kernel_rfl))
  f314 := Tryz.func248.trans (congrArg some (by kernel_rfl))
  t3 := Tryz.underlying3
  a3 := Tryz.isAgg3
  z3 := Tryz.sizeOf3
  v3 := Tryz.zeroValue3
  t4 := Tryz.underlying4
  a4 := Tryz.isAgg4
  z4 := Tryz.sizeOf4
  v4 := Tryz.zeroValue4
  t5 := Tryz.underlying5
  a5 := Tryz.isAgg5
  z5 := Tryz.sizeOf5
  v5 := Tryz.zeroValue5
  t9 := Tryz.underlying9
  a9 := Tryz.isAgg9
  z9 := Tryz.sizeOf9
  v9 := Tryz.zeroValue9
  t46 := Tryz.underlying115
  a46 := Tryz.isAgg115
  z46 := Tryz.sizeOf115
  v46 := Tryz.zeroValue115
  t51 := Tryz.underlying154
  a51 := Tryz.isAgg154
  z51 := Tryz.sizeOf154
  v51 := Tryz.zeroValue154
  t146 := Tryz.underlying208
  a146 := Tryz.isAgg208
  z146 := Tryz.sizeOf208
  v146 := Tryz.zeroValue208
  g1 := by kernel_rfl }
open Go.RowKit Go.Lib in
theorem Tryz.strings_Contains_one (s : ByteArray) (c : UInt8) (w : World) :
    Calls Tryz.prog 139 #[.string s, .string ⟨#[c]⟩] w fun e w' => e = .returned (.bool (decide (0 ≤ Lib.indexByte s.data.toList c))) ∧ w' = w := Any.strings_Contains_one Tryz.lays144 s c w
open Go.RowKit Go.Lib in
theorem Tryz.strings_Contains (s sub : ByteArray) (m : Int) (w : World) (hs : s.size < 4294967281) (hm : w.cell? ⟨0, 0, none⟩ = some (.int .i64 m)) :
    Calls Tryz.prog 139 #[.string s, .string sub] w fun e w' => e = .returned (.bool (Lib.contains s.data.toList sub.data.toList)) ∧ w' = w := Any.strings_Contains Tryz.lays144 s sub m w hs hm
def Tryz.laysM219_ren : Go.Shelf.Ren := ⟨fun | 219 => 220 | 217 => 193 | 225 => 233 | 224 => 234 | 267 => 235 | 266 => 219 | 314 => 248 | n => n, fun | 9 => 9 | 3 => 3 | 4 => 4 | 5 => 5 | 46 => 115 | 146 => 208 | 51 => 154 | n => n, fun | 1 => 0 | n => n⟩
theorem Tryz.laysM219 : Go.Proofs.LaysM.n219 Tryz.prog Tryz.laysM219_ren := {
  mixed := by kernel_rfl
  f217 := Tryz.func193.trans (congrArg some (by kernel_rfl))
  f219 := Tryz.func220.trans (congrArg some (by kernel_rfl))
  f224 := Tryz.func234.trans (congrArg some (by kernel_rfl))
  f225 := Tryz.func233.trans (congrArg some (by kernel_rfl))
  f266 := Tryz.func219.trans (congrArg some (by kernel_rfl))
  f267 := Tryz.func235.trans (congrArg some (by kernel_rfl))
  f314 := Tryz.func248.trans (congrArg some (by kernel_rfl))
  t3 := Tryz.underlying3
  a3 := Tryz.isAgg3
  z3 := Tryz.sizeOf3
  v3 := Tryz.zeroValue3
  t4 := Tryz.underlying4
  a4 := Tryz.isAgg4
  z4 := Tryz.sizeOf4
  v4 := Tryz.zeroValue4
  t5 := Tryz.underlying5
  a5 := Tryz.isAgg5
  z5 := Tryz.sizeOf5
  v5 := Tryz.zeroValue5
  t9 := Tryz.underlying9
  a9 := Tryz.isAgg9
  z9 := Tryz.sizeOf9
  v9 := Tryz.zeroValue9
  t46 := Tryz.underlying115
  a46 := Tryz.isAgg115
  z46 := Tryz.sizeOf115
  v46 := Tryz.zeroValue115
  t51 := Tryz.underlying154
  a51 := Tryz.isAgg154
  z51 := Tryz.sizeOf154
  v51 := Tryz.zeroValue154
  t146 := Tryz.underlying208
  a146 := Tryz.isAgg208
  z146 := Tryz.sizeOf208
  v146 := Tryz.zeroValue208
  g1 := by kernel_rfl
  i3 := by kernel_rfl
  i4 := by kernel_rfl
  i5 := by kernel_rfl
  i9 := by kernel_rfl
  i46 := by kernel_rfl
  i51 := by kernel_rfl
  i146 := by kernel_rfl
  m1 := by kernel_rfl
  s1_3 := fun w h => Go.Proofs.cell_of_shapedOpen_int (zero := #[.int .i64 0]) (t := 3) h (of_decide_eq_true (by kernel_rfl)) (by kernel_rfl) rfl (by kernel_rfl) (by kernel_rfl) Tryz.underlying3 }
open Go.RowKit Go.Lib in
theorem Tryz.stringslite_Index_shaped (s sub : ByteArray) (w : World) (h : w.ShapedOpen Tryz.prog) (hs : s.size < 4294967281) :
    Calls Tryz.prog 220 #[.string s, .string sub] w fun e w' => e = .returned (.int .i64 (Lib.index s.data.toList sub.data.toList)) ∧ w' = w := Any.stringslite_Index_shaped Tryz.laysM219 s sub w h hs
def Tryz.laysM143_ren : Go.Shelf.Ren := ⟨fun | 143 => 194 | 219 => 220 | 217 => 193 | 225 => 233 | 224 => 234 | 267 => 235 | 266 => 219 | 314 => 248 | n => n, fun | 9 => 9 | 3 => 3 | 4 => 4 | 5 => 5 | 46 => 115 | 146 => 208 | 51 => 154 | n => n, fun | 1 => 0 | n => n⟩
theorem Tryz.laysM143 : Go.Proofs.LaysM.n143 Tryz.prog Tryz.laysM143_ren := {
  mixed := by kernel_rfl
  f143 := Tryz.func194.trans (congrArg some (by kernel_rfl))
  f217 := Tryz.func193.trans (congrArg some (by kernel_rfl))
  f219 := Tryz.func220.trans (congrArg some (by kernel_rfl))
  f224 := Tryz.func234.trans (congrArg some (by kernel_rfl))
  f225 := Tryz.func233.trans (congrArg some (by kernel_rfl))
  f266 := Tryz.func219.trans (congrArg some (by kernel_rfl))
  f267 := Tryz.func235.trans (congrArg some (by kernel_rfl))
  f314 := Tryz.func248.trans (congrArg some (by kernel_rfl))
  t3 := Tryz.underlying3
  a3 := Tryz.isAgg3
  z3 := Tryz.sizeOf3
  v3 := Tryz.zeroValue3
  t4 := Tryz.underlying4
  a4 := Tryz.isAgg4
  z4 := Tryz.sizeOf4
  v4 := Tryz.zeroValue4
  t5 := Tryz.underlying5
  a5 := Tryz.isAgg5
  z5 := Tryz.sizeOf5
  v5 := Tryz.zeroValue5
  t9 := Tryz.underlying9
  a9 := Tryz.isAgg9
  z9 := Tryz.sizeOf9
  v9 := Tryz.zeroValue9
  t46 := Tryz.underlying115
  a46 := Tryz.isAgg115
  z46 := Tryz.sizeOf115
  v46 := Tryz.zeroValue115
  t51 := Tryz.underlying154
  a51 := Tryz.isAgg154
  z51 := Tryz.sizeOf154
  v51 := Tryz.zeroValue154
  t146 := Tryz.underlying208
  a146 := Tryz.isAgg208
  z146 := Tryz.sizeOf208
  v146 := Tryz.zeroValue208
  g1 := by kernel_rfl
  i3 := by kernel_rfl
  i4 := by kernel_rfl
  i5 := by kernel_rfl
  i9 := by kernel_rfl
  i46 := by kernel_rfl
  i51 := by kernel_rfl
  i146 := by kernel_rfl
  m1 := by kernel_rfl
  s1_3 := fun w h => Go.Proofs.cell_of_shapedOpen_int (zero := #[.int .i64 0]) (t := 3) h (of_decide_eq_true (by kernel_rfl)) (by kernel_rfl) rfl (by kernel_rfl) (by kernel_rfl) Tryz.underlying3 }
open Go.RowKit Go.Lib in
theorem Tryz.strings_Index_shaped (s sub : ByteArray) (w : World) (h : w.ShapedOpen Tryz.prog) (hs : s.size < 4294967281) :
    Calls Tryz.prog 194 #[.string s, .string sub] w fun e w' => e = .returned (.int .i64 (Lib.index s.data.toList sub.data.toList)) ∧ w' = w := Any.strings_Index_shaped Tryz.laysM143 s sub w h hs
def Tryz.laysM144_ren : Go.Shelf.Ren := ⟨fun | 144 => 139 | 143 => 194 | 219 => 220 | 217 => 193 | 225 => 233 | 224 => 234 | 267 => 235 | 266 => 219 | 314 => 248 | n => n, fun | 9 => 9 | 4 => 4 | 3 => 3 | 5 => 5 | 46 => 115 | 146 => 208 | 51 => 154 | n => n, fun | 1 => 0 | n => n⟩
theorem Tryz.laysM144 : Go.Proofs.LaysM.n144 Tryz.prog Tryz.laysM144_ren := {
  mixed := by kernel_rfl
  f143 := Tryz.func194.trans (congrArg some (by kernel_rfl))
  f144 := Tryz.func139.trans (congrArg some (by kernel_rfl))
  f217 := Tryz.func193.trans (congrArg some (by kernel_rfl))
  f219 := Tryz.func220.trans (congrArg some (by kernel_rfl))
  f224 := Tryz.func234.trans (congrArg some (by kernel_rfl))
  f225 := Tryz.func233.trans (congrArg some (by kernel_rfl))
  f266 := Tryz.func219.trans (congrArg some (by kernel_rfl))
  f267 := Tryz.func235.trans (congrArg some (by kernel_rfl))
  f314 := Tryz.func248.trans (congrArg some (by kernel_rfl))
  t3 := Tryz.underlying3
  a3 := Tryz.isAgg3
  z3 := Tryz.sizeOf3
  v3 := Tryz.zeroValue3
  t4 := Tryz.underlying4
  a4 := Tryz.isAgg4
  z4 := Tryz.sizeOf4
  v4 := Tryz.zeroValue4
  t5 := Tryz.underlying5
  a5 := Tryz.isAgg5
  z5 := Tryz.sizeOf5
  v5 := Tryz.zeroValue5
  t9 := Tryz.underlying9
  a9 := Tryz.isAgg9
  z9 := Tryz.sizeOf9
  v9 := Tryz.zeroValue9
  t46 := Tryz.underlying115
  a46 := Tryz.isAgg115
  z46 := Tryz.sizeOf115
  v46 := Tryz.zeroValue115
  t51 := Tryz.underlying154
  a51 := Tryz.isAgg154
  z51 := Tryz.sizeOf154
  v51 := Tryz.zeroValue154
  t146 := Tryz.underlying208
  a146 := Tryz.isAgg208
  z146 := Tryz.sizeOf208
  v146 := Tryz.zeroValue208
  g1 := by kernel_rfl
  i3 := by kernel_rfl
  i4 := by kernel_rfl
  i5 := by kernel_rfl
  i9 := by kernel_rfl
  i46 := by kernel_rfl
  i51 := by kernel_rfl
  i146 := by kernel_rfl
  m1 := by kernel_rfl
  s1_3 := fun w h => Go.Proofs.cell_of_shapedOpen_int (zero := #[.int .i64 0]) (t := 3) h (of_decide_eq_true (by kernel_rfl)) (by kernel_rfl) rfl (by kernel_rfl) (by kernel_rfl) Tryz.underlying3 }
open Go.RowKit Go.Lib in
theorem Tryz.strings_Contains_shaped (s sub : ByteArray) (w : World) (h : w.ShapedOpen Tryz.prog) (hs : s.size < 4294967281) :
    Calls Tryz.prog 139 #[.string s, .string sub] w fun e w' => e = .returned (.bool (Lib.contains s.data.toList sub.data.toList)) ∧ w' = w := Any.strings_Contains_shaped Tryz.laysM144 s sub w h hs
end Go.Proofs

namespace Go.Proofs.YtojjkleplnijaaaGreatDoor
open Go.AE Go.RowKit
set_option maxRecDepth 100000
theorem w64 {n : Int} (h : -9223372036854775808 ≤ n ∧ n ≤ 9223372036854775807) : IntKind.i64.wrap n = n := by rw [IntKind.wrap_i64]; omega
abbrev AC := List AV → List ABlk → (AO → List ABlk → Prop) → Prop
def gput (f : FuncId) (c : AC) (G : AG) : AG := fun g => match Nat.beq g f with
  | true => some c
  | false => G g
def g0 : AG := fun _ => none
def COk (f : FuncId) (c : AC) : Prop := ∀ args K k, c args K k → ACalls Tryz.prog f args K k
theorem g0_ok : GOk Tryz.prog g0 := fun f g h => by simp [g0] at h
theorem gput_ok {f : FuncId} {c : AC} {G : AG} (hc : COk f c) (hG : GOk Tryz.prog G) : GOk Tryz.prog (gput f c G) := fun h g hg => by
  unfold gput at hg
  split at hg
  · rename_i e
    have := Nat.eq_of_beq_eq_true e
    subst this
    injection hg with hg
    subst hg
    exact hc
  · exact hG h g hg
theorem call_ok {G : AG} (hG : GOk Tryz.prog G) (n : Nat) (f : FuncId) (args : List AV) (K : List ABlk) (k : AO → List ABlk → Prop) (h : acall1 T0 G n f args K k) : ACalls Tryz.prog f args K k :=
  acall1_ok tabOk (Checked.mixed Tryz.checked) hG n f args K k h
theorem ACalls.lib {f : FuncId} {args : List AV} {K : List ABlk} {k : AO → List ABlk → Prop} (he : Ent Tryz.prog f)
    (h : ∀ w m Args, St w m (hp K) → VL w m args Args → Calls Tryz.prog f Args w fun e w' => ∃ v u, e = .returned u ∧ Below w.heap.size w w' ∧ V w' m v u ∧ k (.ret v) K) : ACalls Tryz.prog f args K k :=
  ⟨he, fun w m Args hS hV => (h w m Args hS hV).mono fun e w' ⟨v, u, h1, h2, h3, h4⟩ => by
    subst h1
    exact ⟨m, v, K, Tr.below hS.Ilt h2, hS.below h2, h3, h4⟩⟩
theorem ent {f : FuncId} {fn : Func} (h : Tf.get f = some fn) (hb : fn.body.isSome = true) : Ent Tryz.prog f := by
  obtain ⟨h1, h2⟩ := tabOk.f f fn h
  exact ⟨fn, h1, h2, hb⟩
theorem vl1 {w : World} {m : Mp} {a : AV} {A : Array Value} (h : VL w m [a] A) : ∃ u, A = #[u] ∧ V w m a u := by
  obtain ⟨h1, h2⟩ := h
  have hs : A.size = 1 := h1.symm
  refine ⟨A[0], ?_, h2 0 (by simp) (by omega)⟩
  apply Array.ext
  · simp [hs]
  · intro i hi hi'
    have : i = 0 := by simp at hi'; omega
    subst this; rfl
theorem vl2 {w : World} {m : Mp} {a b : AV} {A : Array Value} (h : VL w m [a, b] A) : ∃ u v, A = #[u, v] ∧ V w m a u ∧ V w m b v := by
  obtain ⟨h1, h2⟩ := h
  have hs : A.size = 2 := h1.symm
  refine ⟨A[0], A[1], ?_, h2 0 (by simp) (by omega), h2 1 (by simp) (by omega)⟩
  apply Array.ext
  · simp [hs]
  · intro i hi hi'
    have : i = 0 ∨ i = 1 := by simp at hi'; omega
    rcases this with rfl | rfl <;> rfl
theorem v_str {w : World} {m : Mp} {l : List UInt8} {u : Value} (h : V w m (.p (.str l)) u) : ∃ s : ByteArray, u = .string s ∧ s.data.toList = l := by
  cases h with
  | p _ _ h => cases h with
    | str s l hl => exact ⟨s, rfl, hl⟩
theorem v_int {w : World} {m : Mp} {q : IntKind} {n : Int} {u : Value} (h : V w m (.p (.int q n)) u) : u = .int q n := by
  cases h with
  | p _ _ h => cases h; rfl
theorem size_of {s : ByteArray} {l : List UInt8} (h : s.data.toList = l) : s.size = l.length := by
  subst h; exact Array.length_toList.symm
theorem below_same (w : World) : Below w.heap.size w w := Below.refl _ _
def cIndexByte : AC := fun args K k => ∃ l c, args = [.p (.str l), .p (.int .u8 c)] ∧ k (.ret (.p (.int .i64 (Lib.indexByte l c.toNat.toUInt8)))) K
theorem indexByte_ok : COk 138 cIndexByte := by
  rintro args K k ⟨l, c, rfl, hk⟩
  refine ACalls.lib (ent rfl rfl) fun w m Args hS hV => ?_
  obtain ⟨u, v, rfl, h1, h2⟩ := vl2 hV
  obtain ⟨s, rfl, rfl⟩ := v_str h1
  obtain rfl := v_int h2
  exact (Tryz.strings_IndexByte s c w).mono fun e w' ⟨h3, h4⟩ => ⟨_, _, h3, by rw [h4]; exact below_same w, .p _ _ (.int ..), hk⟩
def cContains : AC := fun args K k => ∃ a b, args = [.p (.str a), .p (.str b)] ∧ a.length < 4294967281 ∧ k (.ret (.p (.bool (Lib.contains a b)))) K
theorem contains_ok : COk 139 cContains := by
  rintro args K k ⟨a, b, rfl, hl, hk⟩
  refine ACalls.lib (ent rfl rfl) fun w m Args hS hV => ?_
  obtain ⟨u, v, rfl, h1, h2⟩ := vl2 hV
  obtain ⟨s, rfl, rfl⟩ := v_str h1
  obtain ⟨t, rfl, rfl⟩ := v_str h2
  obtain ⟨n, hn⟩ := hS.gl.facts.maxLen
  exact (Tryz.strings_Contains s t n w (by rw [size_of rfl]; exact hl) hn).mono fun e w' ⟨h3, h4⟩ => ⟨_, _, h3, by rw [h4]; exact below_same w, .p _ _ (.bool ..), hk⟩
def atoiV : Lib.NumEnd Int → List UInt8 → AV
  | .ok v, _ => .tup [.p (.int .i64 v), .p .nili]
  | .range, l => .tup [.p (.int .i64 (Lib.atoiSat l)), .iface 202 .junk]
  | _, _ => .tup [.p (.int .i64 0), .iface 202 .junk]
def cAtoi : AC := fun args K k => ∃ l, args = [.p (.str l)] ∧ l.length < 1000000 ∧ k (.ret (atoiV (Lib.atoiAll l) l)) K
theorem tup2 {w : World} {m : Mp} {a b : AV} {u v : Value} (h1 : V w m a u) (h2 : V w m b v) : V w m (.tup [a, b]) (.tuple #[u, v]) :=
  .tup _ _ rfl fun j hj hj' => by
    rcases j with _ | _ | j
    · exact h1
    · exact h2
    · simp at hj; omega
theorem atoi_ok : COk 211 cAtoi := by
  rintro args K k ⟨l, rfl, hl, hk⟩
  refine ACalls.lib (ent rfl rfl) fun w m Args hS hV => ?_
  obtain ⟨u, rfl, h1⟩ := vl1 hV
  obtain ⟨s, rfl, rfl⟩ := v_str h1
  have hs := size_of (s := s) rfl
  cases ha : Lib.atoiAll s.data.toList with
  | ok v =>
    rw [ha] at hk
    refine (Tryz.strconv_Atoi_ok s (by omega) v ha w).mono fun e w' ⟨h3, h4⟩ => ⟨_, _, h3, ?_, tup2 (.p _ _ (.int ..)) (.p _ _ .nili), hk⟩
    rcases h4 with rfl | ⟨t, rfl⟩
    · exact below_same _
    · exact bytesWorld_below _ _ _
  | range =>
    rw [ha] at hk
    obtain ⟨ev, h5, h6⟩ := hS.gl.facts.errRange
    exact (Tryz.strconv_Atoi_range s (by omega) ha ev w h5 h6).mono fun e w' ⟨N, h3, _, _, h4⟩ => ⟨_, _, h3, h4, tup2 (.p _ _ (.int ..)) (.iface _ _ _ (.junk _)), hk⟩
  | _ =>
    rw [ha] at hk
    obtain ⟨ev, h5, h6⟩ := hS.gl.facts.errSyntax
    exact (Tryz.strconv_Atoi_syntax s (by omega) ⟨fun v e => (by rw [ha] at e; cases e), fun e => (by rw [ha] at e; cases e)⟩ ev w h5 h6).mono fun e w' ⟨N, h3, _, _, h4⟩ => ⟨_, _, h3, h4, tup2 (.p _ _ (.int ..)) (.iface _ _ _ (.junk _)), hk⟩
theorem grow_below (w : World) (n : Nat) (os : Array Obj) : Below w.heap.size w (Sort.grow (w.drewN n) os) :=
  ⟨rfl, rfl, rfl, by simp [Sort.grow], fun j hj => by simp [Sort.grow, Array.getElem?_append, hj]⟩
def cItoa : AC := fun args K k => ∃ n, args = [.p (.int .i64 n)] ∧ -9223372036854775808 ≤ n ∧ n ≤ 9223372036854775807 ∧ k (.ret (.p (.str (Lib.itoa n)))) K
theorem itoa_ok : COk 212 cItoa := by
  rintro args K k ⟨n, rfl, h0, h1, hk⟩
  refine ACalls.lib (ent rfl rfl) fun w m Args hS hV => ?_
  obtain ⟨u, rfl, h2⟩ := vl1 hV
  obtain rfl := v_int h2
  exact (Tryz.strconv_Itoa n h0 h1 w hS.gl.facts.pow10).mono fun e w' ⟨h3, j, os, h4⟩ => ⟨_, _, h3, by rw [h4]; exact grow_below w j os, .p _ _ (.str _ _ rfl), hk⟩
end Go.Proofs.YtojjkleplnijaaaGreatDoor
