/-
  DERIVED: THE SHELF's CONTRACTS AT THIS DUMP, IN PLAIN WORDS (tools/lay-plain.mjs out of 'YtghbhchkdomfhaaGreatDoorShelfSrc.lean', which tools/lay-shelf.mjs wrote): THE SAME DECLARATIONS UNDER THE SAME NAMES: 'import', 'namespace', 'open', 'def', 'theorem' AND NOTHING ELSE: no command of the shelf's: FOR A HAND-IN. Each laying: the table of numbers ('.._ren') and one theorem, a field a fact of the dump's own or the kernel's comparison; each contract: ONE APPLICATION.
-/
import Derived.Shelf.Strings.Builder1
import Derived.Shelf.Strings.Builder2
import Derived.Shelf.Strings.OnBuilder
import Derived.Shelf.Strings.Trim
import Derived.Shelf.Small.Utf8
import Derived.Shelf.Small.Bits
import Derived.Shelf.Small.Strs
import Derived.Shelf.Small.Wraps
import Derived.Shelf.Strconv.Itoa0
import Derived.Shelf.Strconv.Itoa1
import Derived.Shelf.LaysM
import Derived.Shelf.Strconv.Itoa2
import Derived.Shelf.Strconv.Itoa3
import Derived.Shelf.Strings.Search1
import Derived.Shelf.Strings.Search2
import Derived.Shelf.Strings.Search3
import Derived.Shelf.Strings.Cut
import Derived.Shelf.Strings.Count
import Derived.Shelf.Strings.Shaped
import Derived.Shelf.Strings.Prefix
import Derived.Shelf.Strings.Split
import Derived.Shelf.Strings.Runes
import Derived.Shelf.Strings.AsciiSet
import Derived.Shelf.Unicode.DecodeSlow
import Derived.Shelf.Strings.SlTrimAscii
import Derived.Test.YtghbhchkdomfhaaGreatDoorProg
namespace Go.Proofs
open Go.Shelf
def Tryz.lays169_ren : Go.Shelf.Ren := ⟨fun | 169 => 45 | n => n, fun | 70 => 71 | 9 => 9 | 0 => 0 | 72 => 73 | 37 => 51 | 127 => 101 | 3 => 3 | 5 => 5 | n => n, fun | n => n⟩
theorem Tryz.lays169 : Go.Proofs.Lays.n169 Tryz.prog Tryz.lays169_ren := {
  mixed := by kernel_rfl
  f169 := Tryz.func45.trans (congrArg some (by kernel_rfl))
  t0 := Tryz.underlying0
  a0 := Tryz.isAgg0
  z0 := Tryz.sizeOf0
  v0 := Tryz.zeroValue0
  t3 := Tryz.underlying3
  a3 := Tryz.isAgg3
  z3 := Tryz.sizeOf3
  v3 := Tryz.zeroValue3
  t9 := Tryz.underlying9
  a9 := Tryz.isAgg9
  z9 := Tryz.sizeOf9
  v9 := Tryz.zeroValue9
  t37 := Tryz.underlying51
  a37 := Tryz.isAgg51
  z37 := Tryz.sizeOf51
  v37 := Tryz.zeroValue51
  t70 := Tryz.underlying71
  a70 := Tryz.isAgg71
  z70 := Tryz.sizeOf71
  v70 := Tryz.zeroValue71
  t72 := Tryz.underlying73
  a72 := Tryz.isAgg73
  z72 := Tryz.sizeOf73
  v72 := Tryz.zeroValue73
  t127 := Tryz.underlying101
  a127 := Tryz.isAgg101
  z127 := Tryz.sizeOf101
  v127 := Tryz.zeroValue101 }
theorem Tryz.Builder_Extra_169 : Builder.Extra Tryz.prog Tryz.lays169_ren := {
  sizeBuilder := by kernel_rfl
  liesBuilder := by kernel_rfl
  t5 := Tryz.underlying5
  a5 := Tryz.isAgg5
  z5 := Tryz.sizeOf5
  v5 := Tryz.zeroValue5
  infoByte := by kernel_rfl
  cellsByte := by kernel_rfl
  sizeByte := by kernel_rfl
  neB5 := by decide }
open Go.RowKit in
/-- (*strings.Builder).String: "String returns the accumulated string.": WHATEVER THE BUILDER HOLDS. (LAID: no walk: one application.) -/
theorem Tryz.Builder_String_any (B b : Nat) (l : List UInt8) (w : World) (h : Lib.IsBuilder 73 5 B b (Lib.byteCells l) w) (hBw : B ≤ w.heap.size) :
    Calls Tryz.prog 45 #[.pointer (some ⟨b, 0, none⟩)] w fun e w' => e = .returned (.string ⟨l.toArray⟩) ∧ Below B w w' := Any.Builder_String_any Tryz.lays169 Tryz.Builder_Extra_169 B b l w h hBw
def Tryz.lays156_ren : Go.Shelf.Ren := ⟨fun | 156 => 69 | 165 => 91 | 166 => 68 | 169 => 45 | 240 => 90 | 241 => 113 | 276 => 112 | 277 => 139 | n => n, fun | 31 => 47 | 9 => 9 | 3 => 3 | 4 => 4 | 0 => 0 | 20 => 20 | 72 => 73 | 76 => 97 | 70 => 71 | 37 => 51 | 75 => 96 | 127 => 101 | 164 => 132 | 5 => 5 | 80 => 76 | n => n, fun | n => n⟩
theorem Tryz.lays156 : Go.Proofs.Lays.n156 Tryz.prog Tryz.lays156_ren := {
  mixed := by kernel_rfl
  f156 := Tryz.func69.trans (congrArg some (by kernel_rfl))
  f165 := Tryz.func91.trans (congrArg some (by kernel_rfl))
  f166 := Tryz.func68.trans (congrArg some (by kernel_rfl))
  f169 := Tryz.func45.trans (congrArg some (by kernel_rfl))
  f240 := Tryz.func90.trans (congrArg some (by kernel_rfl))
  f241 := Tryz.func113.trans (congrArg some (by kernel_rfl))
  f276 := Tryz.func112.trans (congrArg some (by kernel_rfl))
  f277 := Tryz.func139.trans (congrArg some (by kernel_rfl))
  t0 := Tryz.underlying0
  a0 := Tryz.isAgg0
  z0 := Tryz.sizeOf0
  v0 := Tryz.zeroValue0
  t3 := Tryz.underlying3
  a3 := Tryz.isAgg3
  z3 := Tryz.sizeOf3
  v3 := Tryz.zeroValue3
  t4 := Tryz.underlying4
  a4 := Tryz.isAgg4
  z4 := Tryz.sizeOf4
  v4 := Tryz.zeroValue4
  t9 := Tryz.underlying9
  a9 := Tryz.isAgg9
  z9 := Tryz.sizeOf9
  v9 := Tryz.zeroValue9
  t20 := Tryz.underlying20
  a20 := Tryz.isAgg20
  z20 := Tryz.sizeOf20
  v20 := Tryz.zeroValue20
  t31 := Tryz.underlying47
  a31 := Tryz.isAgg47
  z31 := Tryz.sizeOf47
  v31 := Tryz.zeroValue47
  t37 := Tryz.underlying51
  a37 := Tryz.isAgg51
  z37 := Tryz.sizeOf51
  v37 := Tryz.zeroValue51
  t70 := Tryz.underlying71
  a70 := Tryz.isAgg71
  z70 := Tryz.sizeOf71
  v70 := Tryz.zeroValue71
  t72 := Tryz.underlying73
  a72 := Tryz.isAgg73
  z72 := Tryz.sizeOf73
  v72 := Tryz.zeroValue73
  t75 := Tryz.underlying96
  a75 := Tryz.isAgg96
  z75 := Tryz.sizeOf96
  v75 := Tryz.zeroValue96
  t76 := Tryz.underlying97
  a76 := Tryz.isAgg97
  z76 := Tryz.sizeOf97
  v76 := Tryz.zeroValue97
  t127 := Tryz.underlying101
  a127 := Tryz.isAgg101
  z127 := Tryz.sizeOf101
  v127 := Tryz.zeroValue101
  t164 := Tryz.underlying132
  a164 := Tryz.isAgg132
  z164 := Tryz.sizeOf132
  v164 := Tryz.zeroValue132 }
theorem Tryz.Builder_Extra_156 : Builder.Extra Tryz.prog Tryz.lays156_ren := {
  sizeBuilder := by kernel_rfl
  liesBuilder := by kernel_rfl
  t5 := Tryz.underlying5
  a5 := Tryz.isAgg5
  z5 := Tryz.sizeOf5
  v5 := Tryz.zeroValue5
  infoByte := by kernel_rfl
  cellsByte := by kernel_rfl
  sizeByte := by kernel_rfl
  neB5 := by decide }
open Go.RowKit in
/-- No element: the empty string; the world is as it was. (Whatever the slice's address and capacity: a nil slice too.) (LAID: no walk: one application.) -/
theorem Tryz.strings_Join_none (a : Option Addr) (c : Nat) (sep : ByteArray) (w : World) :
    Calls Tryz.prog 69 #[.slice a 0 c, .string sep] w fun e w' => e = .returned (.string ⟨#[]⟩) ∧ w' = w := Any.strings_Join_none Tryz.lays156 Tryz.Builder_Extra_156 a c sep w
open Go.RowKit in
/-- strings.Join: "Join concatenates the elements of its first argument to create a single string. The separator string sep is placed between elements in the resulting string.": HOWEVER MANY ELEMENTS. Below the heap's end the world is as it was. (LAID: no walk: one application.) -/
theorem Tryz.strings_Join (bk o c : Nat) (xs : List ByteArray) (sep : ByteArray) (w : World) (hcells : ∀ (j : Nat) x, xs[j]? = some x → w.cell? ⟨bk, o + j, none⟩ = some (.string x)) (hbk : bk < w.heap.size) (hN : xs.length ≤ 140737488355328) (hcap : xs.length ≤ c) (hlen : (Lib.join (xs.map (·.data.toList)) sep.data.toList).length ≤ 140737488355328) :
    Calls Tryz.prog 69 #[.slice (some ⟨bk, o, none⟩) xs.length c, .string sep] w fun e w' => e = .returned (.string ⟨(Lib.join (xs.map (·.data.toList)) sep.data.toList).toArray⟩) ∧ Below w.heap.size w w' := Any.strings_Join Tryz.lays156 Tryz.Builder_Extra_156 bk o c xs sep w hcells hbk hN hcap hlen
def Tryz.lays133_ren : Go.Shelf.Ren := ⟨fun | 133 => 154 | 128 => 173 | n => n, fun | 51 => 120 | 3 => 3 | 4 => 4 | 46 => 121 | 5 => 5 | 9 => 9 | n => n, fun | n => n⟩
theorem Tryz.lays133 : Go.Proofs.Lays.n133 Tryz.prog Tryz.lays133_ren := {
  mixed := by kernel_rfl
  f128 := Tryz.func173.trans (congrArg some (by kernel_rfl))
  f133 := Tryz.func154.trans (congrArg some (by kernel_rfl))
  t3 := Tryz.underlying3
  a3 := Tryz.isAgg3
  z3 := Tryz.sizeOf3
  v3 := Tryz.zeroValue3
  t4 := Tryz.underlying4
  a4 := Tryz.isAgg4
  z4 := Tryz.sizeOf4
  v4 := Tryz.zeroValue4
  t5 := Tryz.underlying5
  a5 := Tryz.isAgg5
  z5 := Tryz.sizeOf5
  v5 := Tryz.zeroValue5
  t9 := Tryz.underlying9
  a9 := Tryz.isAgg9
  z9 := Tryz.sizeOf9
  v9 := Tryz.zeroValue9
  t46 := Tryz.underlying121
  a46 := Tryz.isAgg121
  z46 := Tryz.sizeOf121
  v46 := Tryz.zeroValue121
  t51 := Tryz.underlying120
  a51 := Tryz.isAgg120
  z51 := Tryz.sizeOf120
  v51 := Tryz.zeroValue120 }
/-- bits.LeadingZeros32: "LeadingZeros32 returns the number of leading zero bits in x; the result is 32 for x == 0.": IT RETURNS '32 - Lib.bitLen x'; the world is as it was. ITS CALLEE bits.Len32 IS MET BY ITS OWN CONTRACT OFF THE SHELF (lay that first): entered in place it sends the kernel out of memory. (LAID: no walk: one application.) -/
theorem Tryz.bits_LeadingZeros32 (x : Int) (w : World) (h0 : 0 ≤ x) (h1 : x ≤ 4294967295) :
    Calls Tryz.prog 154 #[.int .u32 x] w fun e w' => e = .returned (.int .i64 (32 - (Lib.bitLen x.toNat : Int))) ∧ w' = w := Any.bits_LeadingZeros32 Tryz.lays133 x w h0 h1
def Tryz.lays103_ren : Go.Shelf.Ren := ⟨fun | 103 => 130 | 210 => 158 | 206 => 175 | n => n, fun | 9 => 9 | 4 => 4 | 24 => 148 | 3 => 3 | n => n, fun | n => n⟩
theorem Tryz.lays103 : Go.Proofs.Lays.n103 Tryz.prog Tryz.lays103_ren := {
  mixed := by kernel_rfl
  f103 := Tryz.func130.trans (congrArg some (by kernel_rfl))
  f206 := Tryz.func175.trans (congrArg some (by kernel_rfl))
  f210 := Tryz.func158.trans (congrArg some (by kernel_rfl))
  t3 := Tryz.underlying3
  a3 := Tryz.isAgg3
  z3 := Tryz.sizeOf3
  v3 := Tryz.zeroValue3
  t4 := Tryz.underlying4
  a4 := Tryz.isAgg4
  z4 := Tryz.sizeOf4
  v4 := Tryz.zeroValue4
  t9 := Tryz.underlying9
  a9 := Tryz.isAgg9
  z9 := Tryz.sizeOf9
  v9 := Tryz.zeroValue9
  t24 := Tryz.underlying148
  a24 := Tryz.isAgg148
  z24 := Tryz.sizeOf148
  v24 := Tryz.zeroValue148 }
open Go.RowKit in
/-- strings.CutPrefix: "CutPrefix returns s without the provided leading prefix string and reports whether it found the prefix. If s doesn't start with prefix, CutPrefix returns s, false. If prefix is the empty string, CutPrefix returns s, true.": IT RETURNS '(Lib.trimPrefix s p, Lib.hasPrefix s p)'; the world is as it was. (LAID: no walk: one application.) -/
theorem Tryz.strings_CutPrefix (s p : ByteArray) (w : World) :
    Calls Tryz.prog 130 #[.string s, .string p] w fun e w' => e = .returned (.tuple #[.string ⟨(Lib.trimPrefix s.data.toList p.data.toList).toArray⟩, .bool (Lib.hasPrefix s.data.toList p.data.toList)]) ∧ w' = w := Any.strings_CutPrefix Tryz.lays103 s p w
def Tryz.laysM171_ren : Go.Shelf.Ren := ⟨fun | 171 => 70 | 243 => 92 | 246 => 114 | 283 => 140 | 284 => 141 | 285 => 142 | 286 => 143 | 129 => 165 | 317 => 164 | 318 => 166 | 319 => 167 | 320 => 168 | 337 => 178 | 338 => 179 | n => n, fun | 3 => 3 | 9 => 9 | 2 => 2 | 4 => 4 | 171 => 153 | 0 => 0 | 53 => 106 | 37 => 51 | 5 => 5 | 173 => 156 | 212 => 181 | 51 => 120 | 20 => 20 | 213 => 182 | 46 => 121 | 232 => 189 | 233 => 190 | n => n, fun | 17 => 3 | 18 => 4 | 19 => 5 | n => n⟩
theorem Tryz.laysM171 : Go.Proofs.LaysM.n171 Tryz.prog Tryz.laysM171_ren := {
  mixed := by kernel_rfl
  f129 := Tryz.func165.trans (congrArg some (by kernel_rfl))
  f171 := Tryz.func70.trans (congrArg some (by kernel_rfl))
  f243 := Tryz.func92.trans (congrArg some (by kernel_rfl))
  f246 := Tryz.func114.trans (congrArg some (by kernel_rfl))
  f283 := Tryz.func140.trans (congrArg some (by kernel_rfl))
  f284 := Tryz.func141.trans (congrArg some (by kernel_rfl))
  f285 := Tryz.func142.trans (congrArg some (by kernel_rfl))
  f286 := Tryz.func143.trans (congrArg some (by kernel_rfl))
  f317 := Tryz.func164.trans (congrArg some (by kernel_rfl))
  f318 := Tryz.func166.trans (congrArg some (by kernel_rfl))
  f319 := Tryz.func167.trans (congrArg some (by kernel_rfl))
  f320 := Tryz.func168.trans (congrArg some (by kernel_rfl))
  f337 := Tryz.func178.trans (congrArg some (by kernel_rfl))
  f338 := Tryz.func179.trans (congrArg some (by kernel_rfl))
  t0 := Tryz.underlying0
  a0 := Tryz.isAgg0
  z0 := Tryz.sizeOf0
  v0 := Tryz.zeroValue0
  t2 := Tryz.underlying2
  a2 := Tryz.isAgg2
  z2 := Tryz.sizeOf2
  v2 := Tryz.zeroValue2
  t3 := Tryz.underlying3
  a3 := Tryz.isAgg3
  z3 := Tryz.sizeOf3
  v3 := Tryz.zeroValue3
  t4 := Tryz.underlying4
  a4 := Tryz.isAgg4
  z4 := Tryz.sizeOf4
  v4 := Tryz.zeroValue4
  t5 := Tryz.underlying5
  a5 := Tryz.isAgg5
  z5 := Tryz.sizeOf5
  v5 := Tryz.zeroValue5
  t9 := Tryz.underlying9
  a9 := Tryz.isAgg9
  z9 := Tryz.sizeOf9
  v9 := Tryz.zeroValue9
  t20 := Tryz.underlying20
  a20 := Tryz.isAgg20
  z20 := Tryz.sizeOf20
  v20 := Tryz.zeroValue20
  t37 := Tryz.underlying51
  a37 := Tryz.isAgg51
  z37 := Tryz.sizeOf51
  v37 := Tryz.zeroValue51
  t46 := Tryz.underlying121
  a46 := Tryz.isAgg121
  z46 := Tryz.sizeOf121
  v46 := Tryz.zeroValue121
  t51 := Tryz.underlying120
  a51 := Tryz.isAgg120
  z51 := Tryz.sizeOf120
  v51 := Tryz.zeroValue120
  t53 := Tryz.underlying106
  a53 := Tryz.isAgg106
  z53 := Tryz.sizeOf106
  v53 := Tryz.zeroValue106
  t171 := Tryz.underlying153
  a171 := Tryz.isAgg153
  z171 := Tryz.sizeOf153
  v171 := Tryz.zeroValue153
  t173 := Tryz.underlying156
  a173 := Tryz.isAgg156
  z173 := Tryz.sizeOf156
  v173 := Tryz.zeroValue156
  t212 := Tryz.underlying181
  a212 := Tryz.isAgg181
  z212 := Tryz.sizeOf181
  v212 := Tryz.zeroValue181
  t213 := Tryz.underlying182
  a213 := Tryz.isAgg182
  z213 := Tryz.sizeOf182
  t232 := Tryz.underlying189
  a232 := Tryz.isAgg189
  z232 := Tryz.sizeOf189
  v232 := Tryz.zeroValue189
  t233 := Tryz.underlying190
  a233 := Tryz.isAgg190
  z233 := Tryz.sizeOf190
  v233 := Tryz.zeroValue190
  g17 := by kernel_rfl
  g18 := by kernel_rfl
  g19 := by kernel_rfl
  i0 := by kernel_rfl
  i2 := by kernel_rfl
  i3 := by kernel_rfl
  i4 := by kernel_rfl
  i5 := by kernel_rfl
  i9 := by kernel_rfl
  i20 := by kernel_rfl
  i37 := by kernel_rfl
  i46 := by kernel_rfl
  i51 := by kernel_rfl
  i53 := by kernel_rfl
  i171 := by kernel_rfl
  i173 := by kernel_rfl
  i212 := by kernel_rfl
  i232 := by kernel_rfl
  i233 := by kernel_rfl
  m17 := by kernel_rfl
  m18 := by kernel_rfl
  m19 := by kernel_rfl }
open Go.RowKit Go.Sort Go.Lib in
/-- strconv.Itoa: "Itoa is equivalent to FormatInt(int64(i), 10).": i's DECIMAL NUMERAL ('Lib.itoa': a '-' where i is negative, then the digits), FOR EVERY int. The world behind the call: the world before it, new blocks behind the heap (the library's 'var a [24]byte'), draws. (LAID: no walk: one application.) -/
theorem Tryz.strconv_Itoa (n : Int) (h0 : -9223372036854775808 ≤ n) (h1 : n ≤ 9223372036854775807) (w : World) (htab : Lib.TabIs Tryz.prog w "internal/strconv.uint64pow10" .u64 Lib.pow10Tab) :
    Calls Tryz.prog 70 #[.int .i64 n] w fun e w' => e = .returned (.string ⟨(Lib.itoa n).toArray⟩) ∧ ∃ k os, w' = grow (w.drewN k) os := Any.strconv_Itoa Tryz.laysM171 n h0 h1 w htab
def Tryz.lays145_ren : Go.Shelf.Ren := ⟨fun | 145 => 131 | 220 => 159 | 219 => 94 | 217 => 119 | 225 => 120 | 224 => 121 | 267 => 122 | 266 => 149 | 314 => 150 | n => n, fun | 9 => 9 | 4 => 4 | 59 => 128 | 3 => 3 | 5 => 5 | 46 => 121 | 146 => 166 | 51 => 120 | n => n, fun | 1 => 0 | n => n⟩
theorem Tryz.lays145 : Go.Proofs.Lays.n145 Tryz.prog Tryz.lays145_ren := {
  mixed := by kernel_rfl
  f145 := Tryz.func131.trans (congrArg some (by kernel_rfl))
  f217 := Tryz.func119.trans (congrArg some (by kernel_rfl))
  f219 := Tryz.func94.trans (congrArg some (by kernel_rfl))
  f220 := Tryz.func159.trans (congrArg some (by kernel_rfl))
  f224 := Tryz.func121.trans (congrArg some (by kernel_rfl))
  f225 := Tryz.func120.trans (congrArg some (by kernel_rfl))
  f266 := Tryz.func149.trans (congrArg some (by kernel_rfl))
  f267 := Tryz.func122.trans (congrArg some (by kernel_rfl))
  f314 := Tryz.func150.trans (congrArg some (by kernel_rfl))
  t3 := Tryz.underlying3
  a3 := Tryz.isAgg3
  z3 := Tryz.sizeOf3
  v3 := Tryz.zeroValue3
  t4 := Tryz.underlying4
  a4 := Tryz.isAgg4
  z4 := Tryz.sizeOf4
  v4 := Tryz.zeroValue4
  t5 := Tryz.underlying5
  a5 := Tryz.isAgg5
  z5 := Tryz.sizeOf5
  v5 := Tryz.zeroValue5
  t9 := Tryz.underlying9
  a9 := Tryz.isAgg9
  z9 := Tryz.sizeOf9
  v9 := Tryz.zeroValue9
  t46 := Tryz.underlying121
  a46 := Tryz.isAgg121
  z46 := Tryz.sizeOf121
  v46 := Tryz.zeroValue121
  t51 := Tryz.underlying120
  a51 := Tryz.isAgg120
  z51 := Tryz.sizeOf120
  v51 := Tryz.zeroValue120
  t59 := Tryz.underlying128
  a59 := Tryz.isAgg128
  z59 := Tryz.sizeOf128
  v59 := Tryz.zeroValue128
  t146 := Tryz.underlying166
  a146 := Tryz.isAgg166
  z146 := Tryz.sizeOf166
  v146 := Tryz.zeroValue166
  g1 := by kernel_rfl }
open Go.RowKit Go.Lib in
/-- strings.Cut: "Cut slices s around the first instance of sep, returning the text before and after sep. The found result reports whether sep appears in s. If sep does not appear in s, cut returns s, "", false.": IT RETURNS 'Lib.cut s sep'; the world is as it was but for the count of draws. (LAID: no walk: one application.) -/
theorem Tryz.strings_Cut (s sep : ByteArray) (m : Int) (w : World) (hs : s.size < 4294967281) (hm : w.cell? ⟨0, 0, none⟩ = some (.int .i64 m)) :
    Calls Tryz.prog 131 #[.string s, .string sep] w fun e w' => e = .returned (.tuple #[.string ⟨(Lib.cut s.data.toList sep.data.toList).1.toArray⟩, .string ⟨(Lib.cut s.data.toList sep.data.toList).2.1.toArray⟩, .bool (Lib.cut s.data.toList sep.data.toList).2.2]) ∧ ∃ n, w' = w.drewN n := Any.strings_Cut Tryz.lays145 s sep m w hs hm
def Tryz.lays138_ren : Go.Shelf.Ren := ⟨fun | 138 => 46 | 195 => 72 | 218 => 73 | 143 => 74 | 219 => 94 | 217 => 119 | 225 => 120 | 224 => 121 | 267 => 122 | 266 => 149 | 314 => 150 | n => n, fun | 9 => 9 | 3 => 3 | 4 => 4 | 5 => 5 | 0 => 0 | 46 => 121 | 146 => 166 | 51 => 120 | n => n, fun | 1 => 0 | n => n⟩
theorem Tryz.lays138 : Go.Proofs.Lays.n138 Tryz.prog Tryz.lays138_ren := {
  mixed := by kernel_rfl
  f138 := Tryz.func46.trans (congrArg some (by kernel_rfl))
  f143 := Tryz.func74.trans (congrArg some (by kernel_rfl))
  f195 := Tryz.func72.trans (congrArg some (by kernel_rfl))
  f217 := Tryz.func119.trans (congrArg some (by kernel_rfl))
  f218 := Tryz.func73.trans (congrArg some (by kernel_rfl))
  f219 := Tryz.func94.trans (congrArg some (by kernel_rfl))
  f224 := Tryz.func121.trans (congrArg some (by kernel_rfl))
  f225 := Tryz.func120.trans (congrArg some (by kernel_rfl))
  f266 := Tryz.func149.trans (congrArg some (by kernel_rfl))
  f267 := Tryz.func122.trans (congrArg some (by kernel_rfl))
  f314 := Tryz.func150.trans (congrArg some (by kernel_rfl))
  t0 := Tryz.underlying0
  a0 := Tryz.isAgg0
  z0 := Tryz.sizeOf0
  v0 := Tryz.zeroValue0
  t3 := Tryz.underlying3
  a3 := Tryz.isAgg3
  z3 := Tryz.sizeOf3
  v3 := Tryz.zeroValue3
  t4 := Tryz.underlying4
  a4 := Tryz.isAgg4
  z4 := Tryz.sizeOf4
  v4 := Tryz.zeroValue4
  t5 := Tryz.underlying5
  a5 := Tryz.isAgg5
  z5 := Tryz.sizeOf5
  v5 := Tryz.zeroValue5
  t9 := Tryz.underlying9
  a9 := Tryz.isAgg9
  z9 := Tryz.sizeOf9
  v9 := Tryz.zeroValue9
  t46 := Tryz.underlying121
  a46 := Tryz.isAgg121
  z46 := Tryz.sizeOf121
  v46 := Tryz.zeroValue121
  t51 := Tryz.underlying120
  a51 := Tryz.isAgg120
  z51 := Tryz.sizeOf120
  v51 := Tryz.zeroValue120
  t146 := Tryz.underlying166
  a146 := Tryz.isAgg166
  z146 := Tryz.sizeOf166
  v146 := Tryz.zeroValue166
  g1 := by kernel_rfl }
open Go.RowKit Go.Lib in
/-- strings.Count AT A substr OF TWO BYTES OR MORE: "Count counts the number of non-overlapping instances of substr in s.": IT RETURNS 'Lib.count s substr'; the world is as it was. (LAID: no walk: one application.) -/
theorem Tryz.strings_Count (s sub : ByteArray) (m : Int) (w : World) (hs : s.size < 4294967281) (hm : w.cell? ⟨0, 0, none⟩ = some (.int .i64 m)) (h2 : 2 ≤ sub.size) :
    Calls Tryz.prog 46 #[.string s, .string sub] w fun e w' => e = .returned (.int .i64 (Lib.countB s sub)) ∧ w' = w := Any.strings_Count Tryz.lays138 s sub m w hs hm h2
def Tryz.lays146_ren : Go.Shelf.Ren := ⟨fun | 146 => 37 | 221 => 56 | 268 => 83 | 138 => 46 | 143 => 74 | 195 => 72 | 197 => 104 | 218 => 73 | 219 => 94 | 260 => 129 | 217 => 119 | 225 => 120 | 224 => 121 | 267 => 122 | 266 => 149 | 314 => 150 | n => n, fun | 9 => 9 | 31 => 47 | 3 => 3 | 4 => 4 | 0 => 0 | 105 => 125 | 21 => 21 | 5 => 5 | 46 => 121 | 119 => 174 | 139 => 177 | 138 => 176 | 146 => 166 | 51 => 120 | n => n, fun | 1 => 0 | 3 => 1 | 4 => 2 | n => n⟩
theorem Tryz.lays146 : Go.Proofs.Lays.n146 Tryz.prog Tryz.lays146_ren := {
  mixed := by kernel_rfl
  f138 := Tryz.func46.trans (congrArg some (by kernel_rfl))
  f143 := Tryz.func74.trans (congrArg some (by kernel_rfl))
  f146 := Tryz.func37.trans (congrArg some (by kernel_rfl))
  f195 := Tryz.func72.trans (congrArg some (by kernel_rfl))
  f197 := Tryz.func104.trans (congrArg some (by kernel_rfl))
  f217 := Tryz.func119.trans (congrArg some (by kernel_rfl))
  f218 := Tryz.func73.trans (congrArg some (by kernel_rfl))
  f219 := Tryz.func94.trans (congrArg some (by kernel_rfl))
  f221 := Tryz.func56.trans (congrArg some (by kernel_rfl))
  f224 := Tryz.func121.trans (congrArg some (by kernel_rfl))
  f225 := Tryz.func120.trans (congrArg some (by kernel_rfl))
  f260 := Tryz.func129.trans (congrArg some (by kernel_rfl))
  f266 := Tryz.func149.trans (congrArg some (by kernel_rfl))
  f267 := Tryz.func122.trans (congrArg some (by kernel_rfl))
  f268 := Tryz.func83.trans (congrArg some (by kernel_rfl))
  f314 := Tryz.func150.trans (congrArg some (by kernel_rfl))
  t0 := Tryz.underlying0
  a0 := Tryz.isAgg0
  z0 := Tryz.sizeOf0
  v0 := Tryz.zeroValue0
  t3 := Tryz.underlying3
  a3 := Tryz.isAgg3
  z3 := Tryz.sizeOf3
  v3 := Tryz.zeroValue3
  t4 := Tryz.underlying4
  a4 := Tryz.isAgg4
  z4 := Tryz.sizeOf4
  v4 := Tryz.zeroValue4
  t5 := Tryz.underlying5
  a5 := Tryz.isAgg5
  z5 := Tryz.sizeOf5
  v5 := Tryz.zeroValue5
  t9 := Tryz.underlying9
  a9 := Tryz.isAgg9
  z9 := Tryz.sizeOf9
  v9 := Tryz.zeroValue9
  t21 := Tryz.underlying21
  a21 := Tryz.isAgg21
  z21 := Tryz.sizeOf21
  v21 := Tryz.zeroValue21
  t31 := Tryz.underlying47
  a31 := Tryz.isAgg47
  z31 := Tryz.sizeOf47
  v31 := Tryz.zeroValue47
  t46 := Tryz.underlying121
  a46 := Tryz.isAgg121
  z46 := Tryz.sizeOf121
  v46 := Tryz.zeroValue121
  t51 := Tryz.underlying120
  a51 := Tryz.isAgg120
  z51 := Tryz.sizeOf120
  v51 := Tryz.zeroValue120
  t105 := Tryz.underlying125
  a105 := Tryz.isAgg125
  z105 := Tryz.sizeOf125
  v105 := Tryz.zeroValue125
  t119 := Tryz.underlying174
  a119 := Tryz.isAgg174
  z119 := Tryz.sizeOf174
  t138 := Tryz.underlying176
  a138 := Tryz.isAgg176
  z138 := Tryz.sizeOf176
  v138 := Tryz.zeroValue176
  t139 := Tryz.underlying177
  a139 := Tryz.isAgg177
  z139 := Tryz.sizeOf177
  v139 := Tryz.zeroValue177
  t146 := Tryz.underlying166
  a146 := Tryz.isAgg166
  z146 := Tryz.sizeOf166
  v146 := Tryz.zeroValue166
  g1 := by kernel_rfl
  g3 := by kernel_rfl
  g4 := by kernel_rfl }
open Go.RowKit Go.Lib in
/-- strings.Split. (LAID: no walk: one application.) -/
theorem Tryz.strings_Split (s sep : ByteArray) (m : Int) (w : World) (hs : s.size < 4294967281) (hm : w.cell? ⟨0, 0, none⟩ = some (.int .i64 m)) (h1 : 1 ≤ sep.size) :
    Calls Tryz.prog 37 #[.string s, .string sep] w fun e w' =>
      e = .returned (.slice (some ⟨w.heap.size, 0, none⟩) (Lib.countB s sep + 1) (Lib.countB s sep + 1)) ∧ w' = w.alloc (.cells ((Lib.splitB sep 0 (Lib.countB s sep) s).map Value.string).toArray 9) := Any.strings_Split Tryz.lays146 (by kernel_rfl) s sep m w hs hm h1
def Tryz.lays160_ren : Go.Shelf.Ren := ⟨fun | 160 => 176 | 232 => 181 | 231 => 145 | 227 => 146 | 234 => 182 | 233 => 147 | 236 => 183 | 235 => 148 | 228 => 169 | 271 => 186 | 151 => 170 | 197 => 104 | 120 => 187 | 152 => 180 | 260 => 129 | 137 => 184 | 119 => 185 | 224 => 121 | 225 => 120 | 217 => 119 | 266 => 149 | n => n, fun | 9 => 9 | 4 => 4 | 3 => 3 | 5 => 5 | 117 => 162 | 116 => 161 | 0 => 0 | 124 => 165 | 21 => 21 | 105 => 125 | 46 => 121 | 119 => 174 | 139 => 177 | 138 => 176 | n => n, fun | 3 => 1 | 4 => 2 | n => n⟩
theorem Tryz.lays160 : Go.Proofs.Lays.n160 Tryz.prog Tryz.lays160_ren := {
  mixed := by kernel_rfl
  f119 := Tryz.func185.trans (congrArg some (by kernel_rfl))
  f120 := Tryz.func187.trans (congrArg some (by kernel_rfl))
  f137 := Tryz.func184.trans (congrArg some (by kernel_rfl))
  f151 := Tryz.func170.trans (congrArg some (by kernel_rfl))
  f152 := Tryz.func180.trans (congrArg some (by kernel_rfl))
  f160 := Tryz.func176.trans (congrArg some (by kernel_rfl))
  f197 := Tryz.func104.trans (congrArg some (by kernel_rfl))
  f217 := Tryz.func119.trans (congrArg some (by kernel_rfl))
  f224 := Tryz.func121.trans (congrArg some (by kernel_rfl))
  f225 := Tryz.func120.trans (congrArg some (by kernel_rfl))
  f227 := Tryz.func146.trans (congrArg some (by kernel_rfl))
  f228 := Tryz.func169.trans (congrArg some (by kernel_rfl))
  f231 := Tryz.func145.trans (congrArg some (by kernel_rfl))
  f232 := Tryz.func181.trans (congrArg some (by kernel_rfl))
  f233 := Tryz.func147.trans (congrArg some (by kernel_rfl))
  f234 := Tryz.func182.trans (congrArg some (by kernel_rfl))
  f235 := Tryz.func148.trans (congrArg some (by kernel_rfl))
  f236 := Tryz.func183.trans (congrArg some (by kernel_rfl))
  f260 := Tryz.func129.trans (congrArg some (by kernel_rfl))
  f266 := Tryz.func149.trans (congrArg some (by kernel_rfl))
  f271 := Tryz.func186.trans (congrArg some (by kernel_rfl))
  t0 := Tryz.underlying0
  a0 := Tryz.isAgg0
  z0 := Tryz.sizeOf0
  v0 := Tryz.zeroValue0
  t3 := Tryz.underlying3
  a3 := Tryz.isAgg3
  z3 := Tryz.sizeOf3
  v3 := Tryz.zeroValue3
  t4 := Tryz.underlying4
  a4 := Tryz.isAgg4
  z4 := Tryz.sizeOf4
  v4 := Tryz.zeroValue4
  t5 := Tryz.underlying5
  a5 := Tryz.isAgg5
  z5 := Tryz.sizeOf5
  v5 := Tryz.zeroValue5
  t9 := Tryz.underlying9
  a9 := Tryz.isAgg9
  z9 := Tryz.sizeOf9
  v9 := Tryz.zeroValue9
  t21 := Tryz.underlying21
  a21 := Tryz.isAgg21
  z21 := Tryz.sizeOf21
  v21 := Tryz.zeroValue21
  t46 := Tryz.underlying121
  a46 := Tryz.isAgg121
  z46 := Tryz.sizeOf121
  v46 := Tryz.zeroValue121
  t105 := Tryz.underlying125
  a105 := Tryz.isAgg125
  z105 := Tryz.sizeOf125
  v105 := Tryz.zeroValue125
  t116 := Tryz.underlying161
  a116 := Tryz.isAgg161
  z116 := Tryz.sizeOf161
  t117 := Tryz.underlying162
  a117 := Tryz.isAgg162
  z117 := Tryz.sizeOf162
  v117 := Tryz.zeroValue162
  t119 := Tryz.underlying174
  a119 := Tryz.isAgg174
  z119 := Tryz.sizeOf174
  t124 := Tryz.underlying165
  a124 := Tryz.isAgg165
  z124 := Tryz.sizeOf165
  v124 := Tryz.zeroValue165
  t138 := Tryz.underlying176
  a138 := Tryz.isAgg176
  z138 := Tryz.sizeOf176
  v138 := Tryz.zeroValue176
  t139 := Tryz.underlying177
  a139 := Tryz.isAgg177
  z139 := Tryz.sizeOf177
  v139 := Tryz.zeroValue177
  g3 := by kernel_rfl
  g4 := by kernel_rfl }
open Go.RowKit Go.Lib in
/-- strings.Trim at a set of ASCII bytes -/
theorem Tryz.strings_Trim (s cutset : ByteArray) (w : World) (hs : s.size ≤ 9223372036854775807) (hcs : cutset.size < 4294967281) (hascii : ∀ (j : Nat) b, cutset.data.toList[j]? = some b → b.toNat < 128) :
    Calls Tryz.prog 176 #[.string s, .string cutset] w fun e w' => e = .returned (.string ⟨(Lib.trimS s.data.toList cutset.data.toList).toArray⟩) ∧ Below w.heap.size w w' := Any.strings_Trim_laid Tryz.lays160 (by kernel_rfl) s cutset w hs hcs hascii
end Go.Proofs
