/-
  DERIVED: THE SHELF's CONTRACTS AT THIS DUMP, IN PLAIN WORDS (tools/lay-plain.mjs out of 'YthppojbabkljpaaDoorShelfSrc.lean', which tools/lay-shelf.mjs wrote): THE SAME DECLARATIONS UNDER THE SAME NAMES: 'import', 'namespace', 'open', 'def', 'theorem' AND NOTHING ELSE: no command of the shelf's: FOR A HAND-IN. Each laying: the table of numbers ('.._ren') and one theorem, a field a fact of the dump's own or the kernel's comparison; each contract: ONE APPLICATION.
-/
import Derived.Shelf.Strings.Builder1
import Derived.Shelf.Strings.Builder2
import Derived.Shelf.Strings.Trim
import Derived.Shelf.Small.Utf8
import Derived.Shelf.Small.Bits
import Derived.Shelf.Small.Strs
import Derived.Shelf.Small.Wraps
import Derived.Shelf.Strings.Search1
import Derived.Shelf.Strings.Search2
import Derived.Shelf.Strings.Cut
import Derived.Shelf.LaysM
import Derived.Shelf.Strings.Shaped
import Derived.Shelf.Strings.Prefix
import Derived.Shelf.Unicode.Decode
import Derived.Shelf.Strings.Runes
import Derived.Shelf.Strings.AsciiSet
import Derived.Shelf.Bits.Mul64
import Derived.Shelf.Unicode.DecodeSlow
import Derived.Shelf.Unicode.DecodeAny
import Derived.Shelf.Unicode.DecodeLast
import Derived.Shelf.Strings.SlTrimAscii
import Derived.Test.YthppojbabkljpaaDoorProg
namespace Go.Proofs
open Go.Shelf
def Tryd.lays133_ren : Go.Shelf.Ren := ⟨fun | 133 => 82 | 128 => 103 | n => n, fun | 51 => 72 | 3 => 3 | 4 => 4 | 46 => 73 | 5 => 5 | 9 => 9 | n => n, fun | n => n⟩
theorem Tryd.lays133 : Go.Proofs.Lays.n133 Tryd.prog Tryd.lays133_ren := {
  mixed := by kernel_rfl
  f128 := Tryd.func103.trans (congrArg some (by kernel_rfl))
  f133 := Tryd.func82.trans (congrArg some (by kernel_rfl))
  t3 := Tryd.underlying3
  a3 := Tryd.isAgg3
  z3 := Tryd.sizeOf3
  v3 := Tryd.zeroValue3
  t4 := Tryd.underlying4
  a4 := Tryd.isAgg4
  z4 := Tryd.sizeOf4
  v4 := Tryd.zeroValue4
  t5 := Tryd.underlying5
  a5 := Tryd.isAgg5
  z5 := Tryd.sizeOf5
  v5 := Tryd.zeroValue5
  t9 := Tryd.underlying9
  a9 := Tryd.isAgg9
  z9 := Tryd.sizeOf9
  v9 := Tryd.zeroValue9
  t46 := Tryd.underlying73
  a46 := Tryd.isAgg73
  z46 := Tryd.sizeOf73
  v46 := Tryd.zeroValue73
  t51 := Tryd.underlying72
  a51 := Tryd.isAgg72
  z51 := Tryd.sizeOf72
  v51 := Tryd.zeroValue72 }
/-- bits.LeadingZeros32: "LeadingZeros32 returns the number of leading zero bits in x; the result is 32 for x == 0.": IT RETURNS '32 - Lib.bitLen x'; the world is as it was. ITS CALLEE bits.Len32 IS MET BY ITS OWN CONTRACT OFF THE SHELF (lay that first): entered in place it sends the kernel out of memory. (LAID: no walk: one application.) -/
theorem Tryd.bits_LeadingZeros32 (x : Int) (w : World) (h0 : 0 ≤ x) (h1 : x ≤ 4294967295) :
    Calls Tryd.prog 82 #[.int .u32 x] w fun e w' => e = .returned (.int .i64 (32 - (Lib.bitLen x.toNat : Int))) ∧ w' = w := Any.bits_LeadingZeros32 Tryd.lays133 x w h0 h1
def Tryd.lays106_ren : Go.Shelf.Ren := ⟨fun | 106 => 63 | 213 => 91 | 265 => 106 | n => n, fun | 9 => 9 | 3 => 3 | n => n, fun | n => n⟩
theorem Tryd.lays106 : Go.Proofs.Lays.n106 Tryd.prog Tryd.lays106_ren := {
  mixed := by kernel_rfl
  f106 := Tryd.func63.trans (congrArg some (by kernel_rfl))
  f213 := Tryd.func91.trans (congrArg some (by kernel_rfl))
  f265 := Tryd.func106.trans (congrArg some (by kernel_rfl))
  t3 := Tryd.underlying3
  a3 := Tryd.isAgg3
  z3 := Tryd.sizeOf3
  v3 := Tryd.zeroValue3
  t9 := Tryd.underlying9
  a9 := Tryd.isAgg9
  z9 := Tryd.sizeOf9
  v9 := Tryd.zeroValue9 }
open Go.RowKit in
/-- strings.Compare: "Compare returns an integer comparing two strings lexicographically. The result will be 0 if a == b, -1 if a < b, and +1 if a > b.": IT RETURNS 'Lib.compareBytes a b'; the world is as it was. (LAID: no walk: one application.) -/
theorem Tryd.strings_Compare (a b : ByteArray) (w : World) :
    Calls Tryd.prog 63 #[.string a, .string b] w fun e w' => e = .returned (.int .i64 (Lib.compareBytes a.data.toList b.data.toList)) ∧ w' = w := Any.strings_Compare Tryd.lays106 a b w
def Tryd.lays103_ren : Go.Shelf.Ren := ⟨fun | 103 => 43 | 210 => 64 | 206 => 92 | n => n, fun | 9 => 9 | 4 => 4 | 24 => 58 | 3 => 3 | n => n, fun | n => n⟩
theorem Tryd.lays103 : Go.Proofs.Lays.n103 Tryd.prog Tryd.lays103_ren := {
  mixed := by kernel_rfl
  f103 := Tryd.func43.trans (congrArg some (by kernel_rfl))
  f206 := Tryd.func92.trans (congrArg some (by kernel_rfl))
  f210 := Tryd.func64.trans (congrArg some (by kernel_rfl))
  t3 := Tryd.underlying3
  a3 := Tryd.isAgg3
  z3 := Tryd.sizeOf3
  v3 := Tryd.zeroValue3
  t4 := Tryd.underlying4
  a4 := Tryd.isAgg4
  z4 := Tryd.sizeOf4
  v4 := Tryd.zeroValue4
  t9 := Tryd.underlying9
  a9 := Tryd.isAgg9
  z9 := Tryd.sizeOf9
  v9 := Tryd.zeroValue9
  t24 := Tryd.underlying58
  a24 := Tryd.isAgg58
  z24 := Tryd.sizeOf58
  v24 := Tryd.zeroValue58 }
open Go.RowKit in
/-- strings.CutPrefix: "CutPrefix returns s without the provided leading prefix string and reports whether it found the prefix. If s doesn't start with prefix, CutPrefix returns s, false. If prefix is the empty string, CutPrefix returns s, true.": IT RETURNS '(Lib.trimPrefix s p, Lib.hasPrefix s p)'; the world is as it was. (LAID: no walk: one application.) -/
theorem Tryd.strings_CutPrefix (s p : ByteArray) (w : World) :
    Calls Tryd.prog 43 #[.string s, .string p] w fun e w' => e = .returned (.tuple #[.string ⟨(Lib.trimPrefix s.data.toList p.data.toList).toArray⟩, .bool (Lib.hasPrefix s.data.toList p.data.toList)]) ∧ w' = w := Any.strings_CutPrefix Tryd.lays103 s p w
def Tryd.lays145_ren : Go.Shelf.Ren := ⟨fun | 145 => 44 | 220 => 65 | 219 => 93 | 217 => 107 | 225 => 108 | 224 => 109 | 267 => 110 | 266 => 118 | 314 => 119 | n => n, fun | 9 => 9 | 4 => 4 | 59 => 60 | 3 => 3 | 5 => 5 | 46 => 73 | 146 => 78 | 51 => 72 | n => n, fun | 1 => 0 | n => n⟩
theorem Tryd.lays145 : Go.Proofs.Lays.n145 Tryd.prog Tryd.lays145_ren := {
  mixed := by kernel_rfl
  f145 := Tryd.func44.trans (congrArg some (by kernel_rfl))
  f217 := Tryd.func107.trans (congrArg some (by kernel_rfl))
  f219 := Tryd.func93.trans (congrArg some (by kernel_rfl))
  f220 := Tryd.func65.trans (congrArg some (by kernel_rfl))
  f224 := Tryd.func109.trans (congrArg some (by kernel_rfl))
  f225 := Tryd.func108.trans (congrArg some (by kernel_rfl))
  f266 := Tryd.func118.trans (congrArg some (by kernel_rfl))
  f267 := Tryd.func110.trans (congrArg some (by kernel_rfl))
  f314 := Tryd.func119.trans (congrArg some (by kernel_rfl))
  t3 := Tryd.underlying3
  a3 := Tryd.isAgg3
  z3 := Tryd.sizeOf3
  v3 := Tryd.zeroValue3
  t4 := Tryd.underlying4
  a4 := Tryd.isAgg4
  z4 := Tryd.sizeOf4
  v4 := Tryd.zeroValue4
  t5 := Tryd.underlying5
  a5 := Tryd.isAgg5
  z5 := Tryd.sizeOf5
  v5 := Tryd.zeroValue5
  t9 := Tryd.underlying9
  a9 := Tryd.isAgg9
  z9 := Tryd.sizeOf9
  v9 := Tryd.zeroValue9
  t46 := Tryd.underlying73
  a46 := Tryd.isAgg73
  z46 := Tryd.sizeOf73
  v46 := Tryd.zeroValue73
  t51 := Tryd.underlying72
  a51 := Tryd.isAgg72
  z51 := Tryd.sizeOf72
  v51 := Tryd.zeroValue72
  t59 := Tryd.underlying60
  a59 := Tryd.isAgg60
  z59 := Tryd.sizeOf60
  v59 := Tryd.zeroValue60
  t146 := Tryd.underlying78
  a146 := Tryd.isAgg78
  z146 := Tryd.sizeOf78
  v146 := Tryd.zeroValue78
  g1 := by kernel_rfl }
open Go.RowKit Go.Lib in
/-- strings.Cut: "Cut slices s around the first instance of sep, returning the text before and after sep. The found result reports whether sep appears in s. If sep does not appear in s, cut returns s, "", false.": IT RETURNS 'Lib.cut s sep'; the world is as it was but for the count of draws. (LAID: no walk: one application.) -/
theorem Tryd.strings_Cut (s sep : ByteArray) (m : Int) (w : World) (hs : s.size < 4294967281) (hm : w.cell? ⟨0, 0, none⟩ = some (.int .i64 m)) :
    Calls Tryd.prog 44 #[.string s, .string sep] w fun e w' => e = .returned (.tuple #[.string ⟨(Lib.cut s.data.toList sep.data.toList).1.toArray⟩, .string ⟨(Lib.cut s.data.toList sep.data.toList).2.1.toArray⟩, .bool (Lib.cut s.data.toList sep.data.toList).2.2]) ∧ ∃ n, w' = w.drewN n := Any.strings_Cut Tryd.lays145 s sep m w hs hm
def Tryd.lays160_ren : Go.Shelf.Ren := ⟨fun | 160 => 94 | 232 => 111 | 231 => 76 | 227 => 77 | 234 => 112 | 233 => 78 | 236 => 113 | 235 => 79 | 228 => 100 | 271 => 120 | 151 => 102 | 197 => 101 | 120 => 123 | 152 => 117 | 260 => 116 | 137 => 121 | 119 => 122 | 224 => 109 | 225 => 108 | 217 => 107 | 266 => 118 | n => n, fun | 9 => 9 | 4 => 4 | 3 => 3 | 5 => 5 | 117 => 101 | 116 => 100 | 0 => 0 | 124 => 104 | 21 => 21 | 105 => 121 | 46 => 73 | 119 => 131 | 139 => 134 | 138 => 133 | n => n, fun | 3 => 1 | 4 => 2 | n => n⟩
theorem Tryd.lays160 : Go.Proofs.Lays.n160 Tryd.prog Tryd.lays160_ren := {
  mixed := by kernel_rfl
  f119 := Tryd.func122.trans (congrArg some (by kernel_rfl))
  f120 := Tryd.func123.trans (congrArg some (by kernel_rfl))
  f137 := Tryd.func121.trans (congrArg some (by kernel_rfl))
  f151 := Tryd.func102.trans (congrArg some (by kernel_rfl))
  f152 := Tryd.func117.trans (congrArg some (by kernel_rfl))
  f160 := Tryd.func94.trans (congrArg some (by kernel_rfl))
  f197 := Tryd.func101.trans (congrArg some (by kernel_rfl))
  f217 := Tryd.func107.trans (congrArg some (by kernel_rfl))
  f224 := Tryd.func109.trans (congrArg some (by kernel_rfl))
  f225 := Tryd.func108.trans (congrArg some (by kernel_rfl))
  f227 := Tryd.func77.trans (congrArg some (by kernel_rfl))
  f228 := Tryd.func100.trans (congrArg some (by kernel_rfl))
  f231 := Tryd.func76.trans (congrArg some (by kernel_rfl))
  f232 := Tryd.func111.trans (congrArg some (by kernel_rfl))
  f233 := Tryd.func78.trans (congrArg some (by kernel_rfl))
  f234 := Tryd.func112.trans (congrArg some (by kernel_rfl))
  f235 := Tryd.func79.trans (congrArg some (by kernel_rfl))
  f236 := Tryd.func113.trans (congrArg some (by kernel_rfl))
  f260 := Tryd.func116.trans (congrArg some (by kernel_rfl))
  f266 := Tryd.func118.trans (congrArg some (by kernel_rfl))
  f271 := Tryd.func120.trans (congrArg some (by kernel_rfl))
  t0 := Tryd.underlying0
  a0 := Tryd.isAgg0
  z0 := Tryd.sizeOf0
  v0 := Tryd.zeroValue0
  t3 := Tryd.underlying3
  a3 := Tryd.isAgg3
  z3 := Tryd.sizeOf3
  v3 := Tryd.zeroValue3
  t4 := Tryd.underlying4
  a4 := Tryd.isAgg4
  z4 := Tryd.sizeOf4
  v4 := Tryd.zeroValue4
  t5 := Tryd.underlying5
  a5 := Tryd.isAgg5
  z5 := Tryd.sizeOf5
  v5 := Tryd.zeroValue5
  t9 := Tryd.underlying9
  a9 := Tryd.isAgg9
  z9 := Tryd.sizeOf9
  v9 := Tryd.zeroValue9
  t21 := Tryd.underlying21
  a21 := Tryd.isAgg21
  z21 := Tryd.sizeOf21
  v21 := Tryd.zeroValue21
  t46 := Tryd.underlying73
  a46 := Tryd.isAgg73
  z46 := Tryd.sizeOf73
  v46 := Tryd.zeroValue73
  t105 := Tryd.underlying121
  a105 := Tryd.isAgg121
  z105 := Tryd.sizeOf121
  v105 := Tryd.zeroValue121
  t116 := Tryd.underlying100
  a116 := Tryd.isAgg100
  z116 := Tryd.sizeOf100
  t117 := Tryd.underlying101
  a117 := Tryd.isAgg101
  z117 := Tryd.sizeOf101
  v117 := Tryd.zeroValue101
  t119 := Tryd.underlying131
  a119 := Tryd.isAgg131
  z119 := Tryd.sizeOf131
  t124 := Tryd.underlying104
  a124 := Tryd.isAgg104
  z124 := Tryd.sizeOf104
  v124 := Tryd.zeroValue104
  t138 := Tryd.underlying133
  a138 := Tryd.isAgg133
  z138 := Tryd.sizeOf133
  v138 := Tryd.zeroValue133
  t139 := Tryd.underlying134
  a139 := Tryd.isAgg134
  z139 := Tryd.sizeOf134
  v139 := Tryd.zeroValue134
  g3 := by kernel_rfl
  g4 := by kernel_rfl }
open Go.RowKit Go.Lib in
/-- strings.Trim at a set of ASCII bytes -/
theorem Tryd.strings_Trim (s cutset : ByteArray) (w : World) (hs : s.size ≤ 9223372036854775807) (hcs : cutset.size < 4294967281) (hascii : ∀ (j : Nat) b, cutset.data.toList[j]? = some b → b.toNat < 128) :
    Calls Tryd.prog 94 #[.string s, .string cutset] w fun e w' => e = .returned (.string ⟨(Lib.trimS s.data.toList cutset.data.toList).toArray⟩) ∧ Below w.heap.size w w' := Any.strings_Trim_laid Tryd.lays160 (by kernel_rfl) s cutset w hs hcs hascii
end Go.Proofs
