/- Texts that stand behind this claim, one after the other. -/
import Derived.Shelf.Small.Bits
import Derived.Shelf.Small.Strs
import Derived.Shelf.Small.Wraps
import Derived.Shelf.Utf8.RuneCount
import Derived.Shelf.Strconv.Itoa0
import Derived.Shelf.Strings.Search1
import Derived.Shelf.Strings.Search2
import Derived.Shelf.Strings.Search3
import Derived.Shelf.Strings.Cut
import Derived.Shelf.Strings.Count
import Derived.Shelf.LaysM
import Derived.Shelf.Strings.Shaped
import Derived.Shelf.Sort.Plain
import Derived.Shelf.Strings.Prefix
import Derived.Shelf.Strings.Split
import Derived.Shelf.Strings.SplitShaped
import Derived.Shelf.Unicode.Decode
import Derived.Shelf.Strings.RuneCount
import Derived.Shelf.Strings.Explode
import Derived.Shelf.Unicode.DecodeSlow
import Derived.Shelf.Unicode.DecodeAny
import Derived.Ground.Names2Prog
import Derived.Shelf.Slices.Clone
import Derived.Shelf.Slices.CompactI
import Derived.Shelf.Slices.SearchI
import Derived.Shelf.Slices.Cells
import Derived.Shelf.Slices.In.SortNone
import Derived.Ground.SlgnProg
import Derived.Shelf.SlicesE.Clone
import Derived.Test.YticfdhffpniaoaaGreatDoorProg
import Derived.Test.YticfdhffpniaoaaGreatDoorM6
import Derived.Test.YticfdhffpniaoaaGreatDoorM7
import Derived.HandedShaped
import Derived.LaidLaws
/-
  DERIVED: THE SHELF's CONTRACTS AT THIS DUMP, IN PLAIN WORDS (tools/lay-plain.mjs out of 'TryzShelf.lean', which tools/lay-shelf.mjs wrote): THE SAME DECLARATIONS UNDER THE SAME NAMES: 'import', 'namespace', 'open', 'def', 'theorem' AND NOTHING ELSE: no command of the shelf's: FOR A HAND-IN. Each laying: the table of numbers ('.._ren') and one theorem, a field a fact of the dump's own or the kernel's comparison; each contract: ONE APPLICATION.
-/
section
namespace Go.Proofs
open Go.Shelf
def Tryz.lays146_ren : Go.Shelf.Ren := ⟨fun | 146 => 52 | 221 => 75 | 268 => 94 | 138 => 51 | 143 => 74 | 195 => 72 | 197 => 117 | 218 => 73 | 219 => 93 | 260 => 138 | 217 => 113 | 225 => 114 | 224 => 115 | 267 => 116 | 266 => 136 | 314 => 137 | n => n, fun | 9 => 9 | 31 => 110 | 3 => 3 | 4 => 4 | 0 => 0 | 105 => 179 | 21 => 21 | 5 => 5 | 46 => 127 | 119 => 207 | 139 => 210 | 138 => 209 | 146 => 200 | 51 => 73 | n => n, fun | 1 => 0 | 3 => 1 | 4 => 2 | n => n⟩
theorem Tryz.lays146 : Go.Proofs.Lays.n146 Tryz.prog Tryz.lays146_ren := {
  mixed := by kernel_rfl
  f138 := Tryz.func51.trans (congrArg some (by kernel_rfl))
  f143 := Tryz.func74.trans (congrArg some (by kernel_rfl))
  f146 := Tryz.func52.trans (congrArg some (by kernel_rfl))
  f195 := Tryz.func72.trans (congrArg some (by kernel_rfl))
  f197 := Tryz.func117.trans (congrArg some (by kernel_rfl))
  f217 := Tryz.func113.trans (congrArg some (by kernel_rfl))
  f218 := Tryz.func73.trans (congrArg some (by kernel_rfl))
  f219 := Tryz.func93.trans (congrArg some (by kernel_rfl))
  f221 := Tryz.func75.trans (congrArg some (by kernel_rfl))
  f224 := Tryz.func115.trans (congrArg some (by kernel_rfl))
  f225 := Tryz.func114.trans (congrArg some (by kernel_rfl))
  f260 := Tryz.func138.trans (congrArg some (by kernel_rfl))
  f266 := Tryz.func136.trans (congrArg some (by kernel_rfl))
  f267 := Tryz.func116.trans (congrArg some (by kernel_rfl))
  f268 := Tryz.func94.trans (congrArg some (by kernel_rfl))
  f314 := Tryz.func137.trans (congrArg some (by kernel_rfl))
  t0 := Tryz.underlying0
  a0 := Tryz.isAgg0
  z0 := Tryz.sizeOf0
  v0 := Tryz.zeroValue0
  t3 := Tryz.underlying3
  a3 := Tryz.isAgg3
  z3 := Tryz.sizeOf3
  v3 := Tryz.zeroValue3
  t4 := Tryz.underlying4
  a4 := Tryz.isAgg4
  z4 := Tryz.sizeOf4
  v4 := Tryz.zeroValue4
  t5 := Tryz.underlying5
  a5 := Tryz.isAgg5
  z5 := Tryz.sizeOf5
  v5 := Tryz.zeroValue5
  t9 := Tryz.underlying9
  a9 := Tryz.isAgg9
  z9 := Tryz.sizeOf9
  v9 := Tryz.zeroValue9
  t21 := Tryz.underlying21
  a21 := Tryz.isAgg21
  z21 := Tryz.sizeOf21
  v21 := Tryz.zeroValue21
  t31 := Tryz.underlying110
  a31 := Tryz.isAgg110
  z31 := Tryz.sizeOf110
  v31 := Tryz.zeroValue110
  t46 := Tryz.underlying127
  a46 := Tryz.isAgg127
  z46 := Tryz.sizeOf127
  v46 := Tryz.zeroValue127
  t51 := Tryz.underlying73
  a51 := Tryz.isAgg73
  z51 := Tryz.sizeOf73
  v51 := Tryz.zeroValue73
  t105 := Tryz.underlying179
  a105 := Tryz.isAgg179
  z105 := Tryz.sizeOf179
  v105 := Tryz.zeroValue179
  t119 := Tryz.underlying207
  a119 := Tryz.isAgg207
  z119 := Tryz.sizeOf207
  t138 := Tryz.underlying209
  a138 := Tryz.isAgg209
  z138 := Tryz.sizeOf209
  v138 := Tryz.zeroValue209
  t139 := Tryz.underlying210
  a139 := Tryz.isAgg210
  z139 := Tryz.sizeOf210
  v139 := Tryz.zeroValue210
  t146 := Tryz.underlying200
  a146 := Tryz.isAgg200
  z146 := Tryz.sizeOf200
  v146 := Tryz.zeroValue200
  g1 := by kernel_rfl
  g3 := by kernel_rfl
  g4 := by kernel_rfl }
open Go.RowKit Go.Lib in
/-- strings.Split. (LAID: no walk: one application.) -/
theorem Tryz.strings_Split (s sep : ByteArray) (m : Int) (w : World) (hs : s.size < 4294967281) (hm : w.cell? ⟨0, 0, none⟩ = some (.int .i64 m)) (h1 : 1 ≤ sep.size) :
    Calls Tryz.prog 52 #[.string s, .string sep] w fun e w' =>
      e = .returned (.slice (some ⟨w.heap.size, 0, none⟩) (Lib.countB s sep + 1) (Lib.countB s sep + 1)) ∧ w' = w.alloc (.cells ((Lib.splitB sep 0 (Lib.countB s sep) s).map Value.string).toArray 9) := Any.strings_Split Tryz.lays146 (by kernel_rfl) s sep m w hs hm h1
def Tryz.lays138_ren : Go.Shelf.Ren := ⟨fun | 138 => 51 | 195 => 72 | 218 => 73 | 143 => 74 | 219 => 93 | 217 => 113 | 225 => 114 | 224 => 115 | 267 => 116 | 266 => 136 | 314 => 137 | n => n, fun | 9 => 9 | 3 => 3 | 4 => 4 | 5 => 5 | 0 => 0 | 46 => 127 | 146 => 200 | 51 => 73 | n => n, fun | 1 => 0 | n => n⟩
theorem Tryz.lays138 : Go.Proofs.Lays.n138 Tryz.prog Tryz.lays138_ren := {
  mixed := by kernel_rfl
  f138 := Tryz.func51.trans (congrArg some (by kernel_rfl))
  f143 := Tryz.func74.trans (congrArg some (by kernel_rfl))
  f195 := Tryz.func72.trans (congrArg some (by kernel_rfl))
  f217 := Tryz.func113.trans (congrArg some (by kernel_rfl))
  f218 := Tryz.func73.trans (congrArg some (by kernel_rfl))
  f219 := Tryz.func93.trans (congrArg some (by kernel_rfl))
  f224 := Tryz.func115.trans (congrArg some (by kernel_rfl))
  f225 := Tryz.func114.trans (congrArg some (by kernel_rfl))
  f266 := Tryz.func136.trans (congrArg some (by kernel_rfl))
  f267 := Tryz.func116.trans (congrArg some (by kernel_rfl))
  f314 := Tryz.func137.trans (congrArg some (by kernel_rfl))
  t0 := Tryz.underlying0
  a0 := Tryz.isAgg0
  z0 := Tryz.sizeOf0
  v0 := Tryz.zeroValue0
  t3 := Tryz.underlying3
  a3 := Tryz.isAgg3
  z3 := Tryz.sizeOf3
  v3 := Tryz.zeroValue3
  t4 := Tryz.underlying4
  a4 := Tryz.isAgg4
  z4 := Tryz.sizeOf4
  v4 := Tryz.zeroValue4
  t5 := Tryz.underlying5
  a5 := Tryz.isAgg5
  z5 := Tryz.sizeOf5
  v5 := Tryz.zeroValue5
  t9 := Tryz.underlying9
  a9 := Tryz.isAgg9
  z9 := Tryz.sizeOf9
  v9 := Tryz.zeroValue9
  t46 := Tryz.underlying127
  a46 := Tryz.isAgg127
  z46 := Tryz.sizeOf127
  v46 := Tryz.zeroValue127
  t51 := Tryz.underlying73
  a51 := Tryz.isAgg73
  z51 := Tryz.sizeOf73
  v51 := Tryz.zeroValue73
  t146 := Tryz.underlying200
  a146 := Tryz.isAgg200
  z146 := Tryz.sizeOf200
  v146 := Tryz.zeroValue200
  g1 := by kernel_rfl }
open Go.RowKit Go.Lib in
/-- strings.Count at whatever sep that is not empty: the two roads under one statement. (LAID: no walk: one application.) -/
theorem Tryz.strings_Count_any (s sep : ByteArray) (m : Int) (w : World) (hs : s.size < 4294967281) (hm : w.cell? ⟨0, 0, none⟩ = some (.int .i64 m)) (h1 : 1 ≤ sep.size) :
    Calls Tryz.prog 51 #[.string s, .string sep] w fun e w' => e = .returned (.int .i64 (Lib.countB s sep)) ∧ w' = w := Any.strings_Count_any Tryz.lays138 s sep m w hs hm h1
def Tryz.lays145_ren : Go.Shelf.Ren := ⟨fun | 145 => 76 | 220 => 95 | 219 => 93 | 217 => 113 | 225 => 114 | 224 => 115 | 267 => 116 | 266 => 136 | 314 => 137 | n => n, fun | 9 => 9 | 4 => 4 | 59 => 133 | 3 => 3 | 5 => 5 | 46 => 127 | 146 => 200 | 51 => 73 | n => n, fun | 1 => 0 | n => n⟩
theorem Tryz.lays145 : Go.Proofs.Lays.n145 Tryz.prog Tryz.lays145_ren := {
  mixed := by kernel_rfl
  f145 := Tryz.func76.trans (congrArg some (by kernel_rfl))
  f217 := Tryz.func113.trans (congrArg some (by kernel_rfl))
  f219 := Tryz.func93.trans (congrArg some (by kernel_rfl))
  f220 := Tryz.func95.trans (congrArg some (by kernel_rfl))
  f224 := Tryz.func115.trans (congrArg some (by kernel_rfl))
  f225 := Tryz.func114.trans (congrArg some (by kernel_rfl))
  f266 := Tryz.func136.trans (congrArg some (by kernel_rfl))
  f267 := Tryz.func116.trans (congrArg some (by kernel_rfl))
  f314 := Tryz.func137.trans (congrArg some (by kernel_rfl))
  t3 := Tryz.underlying3
  a3 := Tryz.isAgg3
  z3 := Tryz.sizeOf3
  v3 := Tryz.zeroValue3
  t4 := Tryz.underlying4
  a4 := Tryz.isAgg4
  z4 := Tryz.sizeOf4
  v4 := Tryz.zeroValue4
  t5 := Tryz.underlying5
  a5 := Tryz.isAgg5
  z5 := Tryz.sizeOf5
  v5 := Tryz.zeroValue5
  t9 := Tryz.underlying9
  a9 := Tryz.isAgg9
  z9 := Tryz.sizeOf9
  v9 := Tryz.zeroValue9
  t46 := Tryz.underlying127
  a46 := Tryz.isAgg127
  z46 := Tryz.sizeOf127
  v46 := Tryz.zeroValue127
  t51 := Tryz.underlying73
  a51 := Tryz.isAgg73
  z51 := Tryz.sizeOf73
  v51 := Tryz.zeroValue73
  t59 := Tryz.underlying133
  a59 := Tryz.isAgg133
  z59 := Tryz.sizeOf133
  v59 := Tryz.zeroValue133
  t146 := Tryz.underlying200
  a146 := Tryz.isAgg200
  z146 := Tryz.sizeOf200
  v146 := Tryz.zeroValue200
  g1 := by kernel_rfl }
open Go.RowKit Go.Lib in
/-- strings.Cut: "Cut slices s around the first instance of sep, returning the text before and after sep. The found result reports whether sep appears in s. If sep does not appear in s, cut returns s, "", false.": IT RETURNS 'Lib.cut s sep'; the world is as it was but for the count of draws. (LAID: no walk: one application.) -/
theorem Tryz.strings_Cut (s sep : ByteArray) (m : Int) (w : World) (hs : s.size < 4294967281) (hm : w.cell? ⟨0, 0, none⟩ = some (.int .i64 m)) :
    Calls Tryz.prog 76 #[.string s, .string sep] w fun e w' => e = .returned (.tuple #[.string ⟨(Lib.cut s.data.toList sep.data.toList).1.toArray⟩, .string ⟨(Lib.cut s.data.toList sep.data.toList).2.1.toArray⟩, .bool (Lib.cut s.data.toList sep.data.toList).2.2]) ∧ ∃ n, w' = w.drewN n := Any.strings_Cut Tryz.lays145 s sep m w hs hm
def Tryz.lays104_ren : Go.Shelf.Ren := ⟨fun | 104 => 77 | 211 => 96 | 207 => 118 | n => n, fun | 9 => 9 | 4 => 4 | 24 => 135 | 3 => 3 | n => n, fun | n => n⟩
theorem Tryz.lays104 : Go.Proofs.Lays.n104 Tryz.prog Tryz.lays104_ren := {
  mixed := by kernel_rfl
  f104 := Tryz.func77.trans (congrArg some (by kernel_rfl))
  f207 := Tryz.func118.trans (congrArg some (by kernel_rfl))
  f211 := Tryz.func96.trans (congrArg some (by kernel_rfl))
  t3 := Tryz.underlying3
  a3 := Tryz.isAgg3
  z3 := Tryz.sizeOf3
  v3 := Tryz.zeroValue3
  t4 := Tryz.underlying4
  a4 := Tryz.isAgg4
  z4 := Tryz.sizeOf4
  v4 := Tryz.zeroValue4
  t9 := Tryz.underlying9
  a9 := Tryz.isAgg9
  z9 := Tryz.sizeOf9
  v9 := Tryz.zeroValue9
  t24 := Tryz.underlying135
  a24 := Tryz.isAgg135
  z24 := Tryz.sizeOf135
  v24 := Tryz.zeroValue135 }
open Go.RowKit in
/-- strings.CutSuffix: "CutSuffix returns s without the provided ending suffix string and reports whether it found the suffix. If s doesn't end with suffix, CutSuffix returns s, false. If suffix is the empty string, CutSuffix returns s, true.": IT RETURNS '(Lib.trimSuffix s p, Lib.hasSuffix s p)'; the world is as it was. (LAID: no walk: one application.) -/
theorem Tryz.strings_CutSuffix (s p : ByteArray) (w : World) (hs : s.size ≤ 9223372036854775807) :
    Calls Tryz.prog 77 #[.string s, .string p] w fun e w' => e = .returned (.tuple #[.string ⟨(Lib.trimSuffix s.data.toList p.data.toList).toArray⟩, .bool (Lib.hasSuffix s.data.toList p.data.toList)]) ∧ w' = w := Any.strings_CutSuffix Tryz.lays104 s p w hs
def Tryz.lays137_ren : Go.Shelf.Ren := ⟨fun | 137 => 173 | 217 => 113 | 266 => 136 | n => n, fun | 9 => 9 | 5 => 5 | 3 => 3 | n => n, fun | n => n⟩
theorem Tryz.lays137 : Go.Proofs.Lays.n137 Tryz.prog Tryz.lays137_ren := {
  mixed := by kernel_rfl
  f137 := Tryz.func173.trans (congrArg some (by kernel_rfl))
  f217 := Tryz.func113.trans (congrArg some (by kernel_rfl))
  f266 := Tryz.func136.trans (congrArg some (by kernel_rfl))
  t3 := Tryz.underlying3
  a3 := Tryz.isAgg3
  z3 := Tryz.sizeOf3
  v3 := Tryz.zeroValue3
  t5 := Tryz.underlying5
  a5 := Tryz.isAgg5
  z5 := Tryz.sizeOf5
  v5 := Tryz.zeroValue5
  t9 := Tryz.underlying9
  a9 := Tryz.isAgg9
  z9 := Tryz.sizeOf9
  v9 := Tryz.zeroValue9 }
open Go.RowKit in
/-- strings.IndexByte: "IndexByte returns the index of the first instance of c in s, or -1 if c is not present in s.": IT RETURNS 'Lib.indexByte s c'; the world is as it was. (LAID: no walk: one application.) -/
theorem Tryz.strings_IndexByte (s : ByteArray) (c : Int) (w : World) :
    Calls Tryz.prog 173 #[.string s, .int .u8 c] w fun e w' => e = .returned (.int .i64 (Lib.indexByte s.data.toList c.toNat.toUInt8)) ∧ w' = w := Any.strings_IndexByte Tryz.lays137 s c w
def Tryz.lays189_ren : Go.Shelf.Ren := ⟨fun | 189 => 134 | 125 => 149 | 257 => 148 | 128 => 161 | 129 => 162 | 294 => 152 | 295 => 153 | 296 => 154 | 297 => 155 | 298 => 156 | 299 => 157 | 216 => 158 | 300 => 159 | 301 => 160 | 328 => 165 | 329 => 166 | 330 => 167 | 331 => 168 | 332 => 169 | 215 => 170 | 343 => 172 | n => n, fun | 28 => 23 | 3 => 3 | 46 => 127 | 0 => 0 | 51 => 73 | 53 => 222 | 4 => 4 | 183 => 214 | 182 => 213 | 131 => 155 | 5 => 5 | 9 => 9 | 218 => 224 | 222 => 157 | 228 => 230 | 229 => 65 | n => n, fun | n => n⟩
theorem Tryz.lays189 : Go.Proofs.Lays.n189 Tryz.prog Tryz.lays189_ren := {
  mixed := by kernel_rfl
  f125 := Tryz.func149.trans (congrArg some (by kernel_rfl))
  f128 := Tryz.func161.trans (congrArg some (by kernel_rfl))
  f129 := Tryz.func162.trans (congrArg some (by kernel_rfl))
  f189 := Tryz.func134.trans (congrArg some (by kernel_rfl))
  f215 := Tryz.func170.trans (congrArg some (by kernel_rfl))
  f216 := Tryz.func158.trans (congrArg some (by kernel_rfl))
  f257 := Tryz.func148.trans (congrArg some (by kernel_rfl))
  f294 := Tryz.func152.trans (congrArg some (by kernel_rfl))
  f295 := Tryz.func153.trans (congrArg some (by kernel_rfl))
  f296 := Tryz.func154.trans (congrArg some (by kernel_rfl))
  f297 := Tryz.func155.trans (congrArg some (by kernel_rfl))
  f298 := Tryz.func156.trans (congrArg some (by kernel_rfl))
  f299 := Tryz.func157.trans (congrArg some (by kernel_rfl))
  f300 := Tryz.func159.trans (congrArg some (by kernel_rfl))
  f301 := Tryz.func160.trans (congrArg some (by kernel_rfl))
  f328 := Tryz.func165.trans (congrArg some (by kernel_rfl))
  f329 := Tryz.func166.trans (congrArg some (by kernel_rfl))
  f330 := Tryz.func167.trans (congrArg some (by kernel_rfl))
  f331 := Tryz.func168.trans (congrArg some (by kernel_rfl))
  f332 := Tryz.func169.trans (congrArg some (by kernel_rfl))
  f343 := Tryz.func172.trans (congrArg some (by kernel_rfl))
  t0 := Tryz.underlying0
  a0 := Tryz.isAgg0
  z0 := Tryz.sizeOf0
  v0 := Tryz.zeroValue0
  t3 := Tryz.underlying3
  a3 := Tryz.isAgg3
  z3 := Tryz.sizeOf3
  v3 := Tryz.zeroValue3
  t4 := Tryz.underlying4
  a4 := Tryz.isAgg4
  z4 := Tryz.sizeOf4
  v4 := Tryz.zeroValue4
  t5 := Tryz.underlying5
  a5 := Tryz.isAgg5
  z5 := Tryz.sizeOf5
  v5 := Tryz.zeroValue5
  t9 := Tryz.underlying9
  a9 := Tryz.isAgg9
  z9 := Tryz.sizeOf9
  v9 := Tryz.zeroValue9
  t28 := Tryz.underlying23
  a28 := Tryz.isAgg23
  z28 := Tryz.sizeOf23
  v28 := Tryz.zeroValue23
  t46 := Tryz.underlying127
  a46 := Tryz.isAgg127
  z46 := Tryz.sizeOf127
  v46 := Tryz.zeroValue127
  t51 := Tryz.underlying73
  a51 := Tryz.isAgg73
  z51 := Tryz.sizeOf73
  v51 := Tryz.zeroValue73
  t53 := Tryz.underlying222
  a53 := Tryz.isAgg222
  z53 := Tryz.sizeOf222
  v53 := Tryz.zeroValue222
  t131 := Tryz.underlying155
  a131 := Tryz.isAgg155
  z131 := Tryz.sizeOf155
  v131 := Tryz.zeroValue155
  t182 := Tryz.underlying213
  a182 := Tryz.isAgg213
  z182 := Tryz.sizeOf213
  v182 := Tryz.zeroValue213
  t183 := Tryz.underlying214
  a183 := Tryz.isAgg214
  z183 := Tryz.sizeOf214
  v183 := Tryz.zeroValue214
  t218 := Tryz.underlying224
  a218 := Tryz.isAgg224
  z218 := Tryz.sizeOf224
  v218 := Tryz.zeroValue224
  t222 := Tryz.underlying157
  a222 := Tryz.isAgg157
  z222 := Tryz.sizeOf157
  v222 := Tryz.zeroValue157
  t228 := Tryz.underlying230
  a228 := Tryz.isAgg230
  z228 := Tryz.sizeOf230
  v228 := Tryz.zeroValue230
  t229 := Tryz.underlying65
  a229 := Tryz.isAgg65
  z229 := Tryz.sizeOf65
  v229 := Tryz.zeroValue65 }
open Go.Sort Go.RowKit in
theorem Tryz.slices_Sort_int (blk off cap : Nat) (zs : List Int) (w : World) (hH : Holds (Value.int .i64) w blk off zs.toArray) (hblk : blk < w.heap.size) (hsz : zs.length < 4611686018427387904) :
    Calls Tryz.prog 134 #[.slice (some ⟨blk, off, none⟩) zs.length cap] w fun e w' =>
      e = .returned (.tuple #[]) ∧ ∃ n os, w' = grow (putRow (Value.int .i64) (Sort.ahead w n) blk off (zs.mergeSort fun x y => decide (x ≤ y)).toArray) os := Any.slices_Sort_int Tryz.lays189 blk off cap zs w hH hblk hsz
open Go.RowKit Go.Sort in
/-- .. and plain. (LAID: no walk: one application.) -/
theorem Tryz.slices_Sort_int_none (p : Option Addr) (cap : Nat) (w : World) :
    Calls Tryz.prog 134 #[.slice p 0 cap] w fun e w' => e = .returned (.tuple #[]) ∧ w' = w := Any.slices_Sort_int_none Tryz.lays189 p cap w
def Tryz.laysNm220_ren : Go.Shelf.Ren := ⟨fun | 20 => 135 | n => n, fun | 22 => 23 | 3 => 3 | 4 => 4 | 0 => 0 | n => n, fun | n => n⟩
theorem Tryz.laysNm220 : Go.Proofs.Lays2.n20 Tryz.prog Tryz.laysNm220_ren := {
  mixed := by kernel_rfl
  f20 := Tryz.func135.trans (congrArg some (by kernel_rfl))
  t0 := Tryz.underlying0
  a0 := Tryz.isAgg0
  z0 := Tryz.sizeOf0
  v0 := Tryz.zeroValue0
  t3 := Tryz.underlying3
  a3 := Tryz.isAgg3
  z3 := Tryz.sizeOf3
  v3 := Tryz.zeroValue3
  t4 := Tryz.underlying4
  a4 := Tryz.isAgg4
  z4 := Tryz.sizeOf4
  v4 := Tryz.zeroValue4
  t22 := Tryz.underlying23
  a22 := Tryz.isAgg23
  z22 := Tryz.sizeOf23
  v22 := Tryz.zeroValue23
  i3 := by kernel_rfl }
open Go.RowKit Go.Lib Go.Sort in
/-- slices.Compact at []int: "Compact replaces consecutive runs of equal elements with a single copy. This is like the uniq command found on Unix. Compact modifies the contents of the slice s and returns the modified slice, which may have a smaller length. Compact zeroes the elements between the new length and the original length. The result preserves the nilness of s.": IT RETURNS THE SLICE CUT TO 'Lib.compact zs'; ITS CELLS HOLD 'Lib.compact zs', THEN ZERO VALUES up to the old length; all else is as it was, but for the count of draws. IN THE WORDS OF slices.Sort's CONTRACT ('Holds', 'putRow'): so the everyday 'slices.Sort(xs); xs = slices.Compact(xs)' goes from the one contract to the other. It asks 'zs.length ≤ cap' (every slice's: the reslicing 's[:k]' looks at it). Length 0, nil: '.._empty'. (LAID: no walk: one application.) -/
theorem Tryz.slices_Compact_int (blk off cap : Nat) (zs : List Int) (w : World) (hH : Holds (Value.int .i64) w blk off zs.toArray) (hsz : zs.length ≤ 9223372036854775807) (hcap : zs.length ≤ cap) :
    Calls Tryz.prog 135 #[.slice (some ⟨blk, off, none⟩) zs.length cap] w fun e w' => e = .returned (.slice (some ⟨blk, off, none⟩) (Lib.compact zs).length cap) ∧ ∃ q, w' = putRow (Value.int .i64) (Sort.ahead w q) blk off (Lib.compact zs ++ List.replicate (zs.length - (Lib.compact zs).length) 0).toArray := Any.slices_Compact_int Tryz.laysNm220 blk off cap zs w hH hsz hcap
open Go.RowKit Go.Lib Go.Sort in
/-- The same at a slice of length 0, a nil one too: it comes back as it is. (LAID: no walk: one application.) -/
theorem Tryz.slices_Compact_int_empty (a : Option Addr) (cap : Nat) (w : World) :
    Calls Tryz.prog 135 #[.slice a 0 cap] w fun e w' => e = .returned (.slice a 0 cap) ∧ w' = w := Any.slices_Compact_int_empty Tryz.laysNm220 a cap w
end Go.Proofs
end
/- The chapter on words that are cut: the functions that are taken as they are. -/
section
set_option maxHeartbeats 4000000
set_option linter.unusedVariables false
set_option linter.unusedSimpArgs false
namespace Go.Proofs.W
open Go Vm Go.Proofs.Zs09

theorem extA [Base] : ∀ (f : FuncId) (k : ExtK), A0.bl f = some k → ∃ fn, ExtFn Tryz.prog f k fn := by
  intro f k h
  simp only [A0] at h
  split at h
  · rename_i e; subst e; cases h
    exact ⟨Tryz.f63, Tryz.func63, by kernel_rfl, by kernel_rfl, by kernel_rfl, (show Extern.find Tryz.f63 = some (Extern.Atomic.update (Op.intArith .add) .i64 true) by kernel_rfl)⟩
  split at h
  · rename_i e; subst e; cases h
    exact ⟨Tryz.f64, Tryz.func64, by kernel_rfl, by kernel_rfl, by kernel_rfl, (show Extern.find Tryz.f64 = some (Extern.Atomic.loadT (.int .i64)) by kernel_rfl)⟩
  split at h
  · rename_i e; subst e; cases h
    exact ⟨Tryz.f81, Tryz.func81, by kernel_rfl, by kernel_rfl, by kernel_rfl, (show Extern.find Tryz.f81 = some (Extern.Atomic.loadT (.int .u32)) by kernel_rfl)⟩
  split at h
  · rename_i e; subst e; cases h
    exact ⟨Tryz.f101, Tryz.func101, by kernel_rfl, by kernel_rfl, by kernel_rfl, (show Extern.find Tryz.f101 = some (Extern.Atomic.storeT) by kernel_rfl)⟩
  split at h
  · rename_i e; subst e; cases h
    exact ⟨Tryz.f123, Tryz.func123, by kernel_rfl, by kernel_rfl, by kernel_rfl, ⟨.disable, by kernel_rfl⟩⟩
  split at h
  · rename_i e; subst e; cases h
    exact ⟨Tryz.f124, Tryz.func124, by kernel_rfl, by kernel_rfl, by kernel_rfl, (show Extern.find Tryz.f124 = some (Extern.Atomic.casT (.int .i32)) by kernel_rfl)⟩
  split at h
  · rename_i e; subst e; cases h
    exact ⟨Tryz.f125, Tryz.func125, by kernel_rfl, by kernel_rfl, by kernel_rfl, ⟨.enable, by kernel_rfl⟩⟩
  split at h
  · rename_i e; subst e; cases h
    exact ⟨Tryz.f126, Tryz.func126, by kernel_rfl, by kernel_rfl, by kernel_rfl, ⟨.acquire, by kernel_rfl⟩⟩
  split at h
  · rename_i e; subst e; cases h
    exact ⟨Tryz.f128, Tryz.func128, by kernel_rfl, by kernel_rfl, by kernel_rfl, ⟨.releaseMerge, by kernel_rfl⟩⟩
  split at h
  · rename_i e; subst e; cases h
    exact ⟨Tryz.f129, Tryz.func129, by kernel_rfl, by kernel_rfl, by kernel_rfl, (show Extern.find Tryz.f129 = some (Extern.Atomic.update (Op.intArith .add) .i32 true) by kernel_rfl)⟩
  · cases h
theorem primA0 [Base] (hB : ∃ m, Base.B 0 0 = some (.int .i64 m)) : PrimOk Tryz.prog A0 := by
  refine ⟨extA, fun f g h args H d hd ρ im w vs hR hvs => ?_, ?_⟩
  · simp only [A0] at h
    split at h
    · rename_i e; subst e; cases h
      exact rule_calls hd hR hvs
    split at h
    · rename_i e; subst e; cases h
      exact right_calls hd hR hvs
    · cases h
  intro f p h args H r hr ρ im w vs hR hvs
  simp only [A0] at h
  split at h
  · rename_i e; subst e; cases h
    exact pSplit_at (g := 0) hB (fun s sep m w h1 h2 h3 => Tryz.strings_Split s sep m w h1 h2 h3) args H r hr ρ im w vs hR hvs
  split at h
  · rename_i e; subst e; cases h
    exact pCount_at (g := 0) hB (fun s sep m w h1 h2 h3 => Tryz.strings_Count_any s sep m w h1 h2 h3) args H r hr ρ im w vs hR hvs
  split at h
  · rename_i e; subst e; cases h
    exact pCut_at (g := 0) hB (fun s sep m w h1 h2 => Tryz.strings_Cut s sep m w h1 h2) args H r hr ρ im w vs hR hvs
  split at h
  · rename_i e; subst e; cases h
    exact pCutSuffix_at (fun s p w h1 => Tryz.strings_CutSuffix s p w h1) args H r hr ρ im w vs hR hvs
  split at h
  · rename_i e; subst e; cases h
    exact pIndexByte_at (fun s c w => Tryz.strings_IndexByte s c w) args H r hr ρ im w vs hR hvs
  split at h
  · rename_i e; subst e; cases h
    exact pSort_at (fun blk cap zs w h1 h2 h3 => Tryz.slices_Sort_int blk 0 cap zs w h1 h2 h3) (fun p cap w => Tryz.slices_Sort_int_none p cap w) args H r hr ρ im w vs hR hvs
  split at h
  · rename_i e; subst e; cases h
    exact pCompact_at (fun blk cap zs w h1 h2 h3 => Tryz.slices_Compact_int blk 0 cap zs w h1 h2 h3) (fun p cap w => Tryz.slices_Compact_int_empty p cap w) args H r hr ρ im w vs hR hvs
  · cases h
theorem primA [Base] (hB : ∃ m, Base.B 0 0 = some (.int .i64 m)) : PrimOk Tryz.prog A := by
  have h0 := primA0 hB
  refine ⟨h0.ext, h0.rd, fun f p h args H r hr ρ im w vs hR hvs => ?_⟩
  simp only [A] at h
  split at h
  · rename_i e; subst e; cases h
    exact only_calls mixed h0 bo61 rfl rfl (tells_pure told_run) hr hR hvs
  · exact h0.ok f p h args H r hr ρ im w vs hR hvs
end Go.Proofs.W
end
/- From a law's runs to the row that lists variables. -/
section
set_option linter.unusedVariables false
namespace Vm
open Go
section
variable {P : Program}
theorem typed_str {t : TypeId} {ds : List D} (hu : P.underlying t = some .string) (h : Typed P t ds) : ∃ s, ds = [.str s] ∧ s.length ≤ maxLen := by
  cases h with
  | bool _ b h => rw [hu] at h; cases h
  | int _ k1 n h hn => rw [hu] at h; cases h
  | str _ s h hs => exact ⟨s, rfl, hs⟩
  | slice _ e xs h hl hx => rw [hu] at h; cases h
  | struct _ fs ds h hf => rw [hu] at h; cases h
  | array _ e n ds h hf => rw [hu] at h; cases h
theorem typed_bool {t : TypeId} {ds : List D} (hu : P.underlying t = some .bool) (h : Typed P t ds) : ∃ b, ds = [.bool b] := by
  cases h with
  | bool _ b h => exact ⟨b, rfl⟩
  | int _ k1 n h hn => rw [hu] at h; cases h
  | str _ s h hs => rw [hu] at h; cases h
  | slice _ e xs h hl hx => rw [hu] at h; cases h
  | struct _ fs ds h hf => rw [hu] at h; cases h
  | array _ e n ds h hf => rw [hu] at h; cases h
theorem typedF_cons {t : TypeId} {ts : List TypeId} {ds : List D} (h : TypedF P (t :: ts) ds) : ∃ a b, ds = a ++ b ∧ Typed P t a ∧ TypedF P ts b := by
  cases h with
  | cons _ _ a b h hr => exact ⟨a, b, rfl, h, hr⟩
theorem typedE_one {e : TypeId} {xs : List D} (ha : aggT P e = false) (h : TypedE P e xs) {α : Type} (f : α → D) (hf : ∀ x, Typed P e [x] → ∃ a, x = f a) : ∃ l : List α, xs = l.map f := by
  induction xs with
  | nil => exact ⟨[], rfl⟩
  | cons x xs ih =>
    cases h with
    | agg _ cs _ ha' h hr => rw [ha] at ha'; cases ha'
    | one _ _ _ ha' h hr =>
      obtain ⟨l, hl⟩ := ih hr
      obtain ⟨a, hb⟩ := hf x h
      exact ⟨a :: l, by rw [List.map_cons, ← hl, hb]⟩
/-- as 'typedE_agg', for what lies within: each element is less than the list -/
theorem typedE_aggI {e : TypeId} {xs : List D} (ha : aggT P e = true) (h : TypedE P e xs) {α : Type} (f : α → D) (q : α → Prop) (hf : ∀ cs, SizeOf.sizeOf cs < SizeOf.sizeOf xs → Typed P e cs → ∃ a, D.agg cs = f a ∧ q a) : ∃ l : List α, xs = l.map f ∧ ∀ a ∈ l, q a := by
  induction xs with
  | nil => exact ⟨[], rfl, by simp⟩
  | cons x xs ih =>
    cases h with
    | agg _ cs _ ha' h hr =>
      obtain ⟨l, hl, hq⟩ := ih hr (fun cs hc => hf cs (by simp only [List.cons.sizeOf_spec]; omega))
      obtain ⟨a, hb, hqa⟩ := hf cs (by simp only [List.cons.sizeOf_spec, D.agg.sizeOf_spec]; omega) h
      refine ⟨a :: l, by rw [List.map_cons, ← hl, hb], fun y hy => ?_⟩
      rcases List.mem_cons.1 hy with rfl | hy
      · exact hqa
      · exact hq y hy
    | one _ _ _ ha' h hr => rw [ha] at ha'; cases ha'
theorem typedF_nil' {ds : List D} (h : TypedF P [] ds) : ds = [] := by cases h; rfl
theorem typedA_str {t : TypeId} {ts : List TypeId} {ds : List D} (hu : P.underlying t = some .string) (ha : aggT P t = false) (h : TypedA P (t :: ts) ds) : ∃ s r, ds = .str s :: r ∧ s.length ≤ maxLen ∧ TypedA P ts r := by
  obtain ⟨d, r, rfl, h1, h2⟩ := typedA_one ha h
  obtain ⟨s, hs, hl⟩ := typed_str hu h1
  cases hs
  exact ⟨s, r, rfl, hl, h2⟩
theorem typedA_int {t : TypeId} {k : IntKind} {ts : List TypeId} {ds : List D} (hu : P.underlying t = some (.int k)) (ha : aggT P t = false) (h : TypedA P (t :: ts) ds) : ∃ n r, ds = .int k n :: r ∧ (Lit.int k n).wf = true ∧ TypedA P ts r := by
  obtain ⟨d, r, rfl, h1, h2⟩ := typedA_one ha h
  obtain ⟨s, hs, hl⟩ := typed_int hu h1
  cases hs
  exact ⟨s, r, rfl, hl, h2⟩
theorem typedA_slice {t e : TypeId} {ts : List TypeId} {ds : List D} (hu : P.underlying t = some (.slice e)) (ha : aggT P t = false) (h : TypedA P (t :: ts) ds) : ∃ xs r, ds = .sl false xs :: r ∧ xs.length ≤ maxLen ∧ TypedE P e xs ∧ TypedA P ts r := by
  obtain ⟨d, r, rfl, h1, h2⟩ := typedA_one ha h
  obtain ⟨s, hs, hl, hx⟩ := typed_slice hu h1
  cases hs
  exact ⟨s, r, rfl, hl, hx, h2⟩
theorem typedE_ints {e : TypeId} {k : IntKind} {xs : List D} (hu : P.underlying e = some (.int k)) (ha : aggT P e = false) (h : TypedE P e xs) : ∃ l : List Int, xs = l.map (.int k) :=
  typedE_one ha h _ fun x hx => by
    obtain ⟨n, hn, -⟩ := typed_int hu hx
    cases hn
    exact ⟨n, rfl⟩
end

/-- the row's contract, where it lists variables and a function reads one of the library's own -/
theorem law_lifted {C : Checked} {os : Os} {f : FuncId} {fn : Func} {s : ChangeSpec} {H : Type} {enc : TypeId × Value → H} {conds : List PathCond} {laid : List (String × DataW Unit)} {A : Ann} {S : List TypeId} {tb : TypeId}
    (started : os.Started) (own : ownKnob C.prog.godebug = none) (noInit : C.prog.inits.idxOf? f = none) (hfn : C.prog.funcs[f]? = some fn)
    (witness : ∃ (w : World) (tape : Tape) (i : Input), w.os = os ∧ (w.forCall tape i).Shaped C.prog ∧ i.vars = [] ∧ Input.okWide C.prog (w.forCall tape i) .any w.heap.size f i ∧
      ((s.pre enc C.prog fn conds false (w.forCall tape i).memory i.args ∧ laidMetH C.prog laid (w.forCall tape i).memory) ∧ sizedMet enc C.prog fn (OpenSpec.ofChange s) false (w.forCall tape i).memory i.args) ∧ ({} : Assume).holds C.prog (lone (Frame.enter C.prog f i.args .normal) [] (w.forCall tape i)))
    (hvars : s.vars = []) (hl : laidOutB C.prog = true)
    (hts : (fn.params.toList.all fun t => C.prog.readableRec t && decide (t < C.prog.types.size)) = true) (hS : plainS C.prog S = true) (hpl : (fn.params.toList.all fun t => S.contains t) = true)
    (hbod : bodied C.prog f = true) (hres : fn.resultTypes = #[tb]) (htb : C.prog.underlying tb = some .bool)
    (hs : ∀ ds : List (DataW H), ds.length = fn.params.size → (s.fn H ds).results = [.lit (.bool true)] ∧ (s.fn H ds).args = ds ∧ (s.fn H ds).vars = [])
    (hprim : ∀ W : World, W.ShapedOpen C.prog → @PrimOk ⟨im0 W⟩ C.prog A)
    (hrun : ∀ Ds, TypedA C.prog fn.params.toList Ds → ∃ k H', runF C.prog A k f Ds [] = some (.ok (.bool true) H')) :
    ReturnsInHanded {} C os f .any (fun w args => (s.pre enc C.prog fn conds false w args ∧ laidMetH C.prog laid w) ∧ sizedMet enc C.prog fn (OpenSpec.ofChange s) false w args) (s.post enc C.prog fn false true false false) := by
  refine returnsInHanded_of_calls own started noInit witness ?_
  intro w tape i _ hsh _ hok hpre hholds
  obtain ⟨_, _, _, fn', hfn', _, _, _, _, hval⟩ := hok
  have e : fn' = fn := Option.some.inj (hfn'.symm.trans hfn)
  subst e
  obtain ⟨⟨⟨ds, gs, before, hw, hc⟩, hx⟩, hz⟩ := hpre
  have hw' := DataW.Whole.of_heap (w' := w.forCall tape i) (by rfl) hw
  have hts' : ∀ t ∈ fn'.params.toList, C.prog.readableRec t = true ∧ t < C.prog.types.size := fun t ht => by
    have h2 : C.prog.readableRec t = true ∧ decide (t < C.prog.types.size) = true := by simpa only [Bool.and_eq_true] using List.all_eq_true.1 hts t ht
    exact ⟨h2.1, of_decide_eq_true h2.2⟩
  refine (law_contract hvars hl hts' hS hpl hbod hres htb hs hrun (w.forCall tape i) w.heap.size i.args ds gs before hval hw' (hprim _ hsh)).mono fun e W' ⟨v, he, hp⟩ => ?_
  subst he
  exact ChangeSpec.post_blind hp
end Vm
end
/- The chapter on machines without free steps: what typed data are. -/
section
set_option maxHeartbeats 4000000
set_option linter.unusedVariables false
set_option linter.unusedSimpArgs false
namespace Go.Proofs.W
open Go Vm Go.Proofs.Zs09

theorem typedA_agg {t : TypeId} {ts : List TypeId} {ds : List D} (ha : aggT Tryz.prog t = true) (h : TypedA Tryz.prog (t :: ts) ds) : ∃ cs r, ds = .agg cs :: r ∧ Typed Tryz.prog t cs ∧ TypedA Tryz.prog ts r := by
  cases h with
  | agg _ _ cs ds _ h hr => exact ⟨cs, ds, rfl, h, hr⟩
  | one _ _ d ds ha' => rw [ha] at ha'; cases ha'
theorem ftDfa : fieldTs Tryz.prog 25 = some [22, 23] := by kernel_rfl
theorem aggRow : aggT Tryz.prog 67 = true := by kernel_rfl
theorem row_of_typed : ∀ (n : Nat) {ts : List TypeId} {cs : List D}, ts = List.replicate n 3 → TypedF Tryz.prog ts cs → ∃ r : List Int, cs = r.map (.int .i64) ∧ r.length = n
  | 0, ts, cs, e, h => by
    subst e
    cases typedF_nil h
    exact ⟨[], rfl, rfl⟩
  | n + 1, ts, cs, e, h => by
    subst e
    obtain ⟨x, es, rfl, h2⟩ := typedF_int un3 h
    obtain ⟨r, rfl, hr⟩ := row_of_typed n rfl h2
    exact ⟨x :: r, rfl, by simp [hr]⟩
theorem rows_of_typed {xs : List D} (h : TypedE Tryz.prog 67 xs) : ∃ l : List (List Int), xs = l.map rowD ∧ ∀ r ∈ l, r.length = 16 :=
  typedE_aggI aggRow h rowD (fun r => r.length = 16) fun cs _ hc => by
    cases hc with
    | array _ e n ds hu hf =>
      have h1 := un67
      rw [h1] at hu
      cases hu
      obtain ⟨r, rfl, hr⟩ := row_of_typed 16 rfl hf
      exact ⟨r, rfl, hr⟩
    | bool _ b h => rw [un67] at h; cases h
    | int _ k1 n h hn => rw [un67] at h; cases h
    | str _ s h hs => rw [un67] at h; cases h
    | slice _ e xs h hl hx => rw [un67] at h; cases h
    | struct _ fs ds h hf => rw [un67] at h; cases h
theorem dfa_of_typed {cs : List D} (h : Typed Tryz.prog 25 cs) : ∃ d : Dfa, D.agg cs = dfaD d ∧ tyM d ∧ d.rule.length ≤ maxLen := by
  have hf0 := typed_fields ftDfa h
  obtain ⟨a, b, rfl, ha, hf1⟩ := typedF_cons hf0
  obtain ⟨x1, rfl, -, h1⟩ := typed_slice un22 ha
  obtain ⟨a, b, rfl, ha, hf2⟩ := typedF_cons hf1
  obtain ⟨x2, rfl, hl, h2⟩ := typed_slice un23 ha
  cases typedF_nil hf2
  obtain ⟨l1, rfl, hr⟩ := rows_of_typed h1
  obtain ⟨l2, rfl⟩ := typedE_ints un3 (by kernel_rfl) h2
  exact ⟨⟨l1, l2⟩, rfl, hr, by simpa using hl⟩
end Go.Proofs.W
end
