/- The shelf's contracts that are used, laid at this seat by the kit's own tools in their plain mode. -/
import Derived.Shelf.Small.Utf8
import Derived.Shelf.Small.Strs
import Derived.Shelf.Strconv.Itoa0
import Derived.Shelf.Strconv.Itoa1
import Derived.Shelf.LaysM
import Derived.Shelf.Strconv.Itoa2
import Derived.Shelf.Strconv.Itoa3
import Derived.Shelf.Strings.Search1
import Derived.Shelf.Unicode.Decode
import Derived.Shelf.Strings.Runes
import Derived.Shelf.Strings.AsciiSet
import Derived.Shelf.Unicode.DecodeSlow
import Derived.Shelf.Unicode.DecodeAny
import Derived.Shelf.Unicode.DecodeLast
import Derived.Ground.Names2Prog
import Derived.Shelf.Slices.Clone
import Derived.Ground.SlgnProg
import Derived.Shelf.SlicesE.Clone
import Derived.Test.YtlfngjemfpjegaaDoorProg
namespace Go.Proofs
open Go.Shelf
def Tryd.lays137_ren : Go.Shelf.Ren := ⟨fun | 137 => 109 | 217 => 113 | 266 => 114 | n => n, fun | 9 => 9 | 5 => 5 | 3 => 3 | n => n, fun | n => n⟩
theorem Tryd.lays137 : Go.Proofs.Lays.n137 Tryd.prog Tryd.lays137_ren := {
  mixed := by kernel_rfl
  f137 := Tryd.func109.trans (congrArg some (by kernel_rfl))
  f217 := Tryd.func113.trans (congrArg some (by kernel_rfl))
  f266 := Tryd.func114.trans (congrArg some (by kernel_rfl))
  t3 := Tryd.underlying3
  a3 := Tryd.isAgg3
  z3 := Tryd.sizeOf3
  v3 := Tryd.zeroValue3
  t5 := Tryd.underlying5
  a5 := Tryd.isAgg5
  z5 := Tryd.sizeOf5
  v5 := Tryd.zeroValue5
  t9 := Tryd.underlying9
  a9 := Tryd.isAgg9
  z9 := Tryd.sizeOf9
  v9 := Tryd.zeroValue9 }
open Go.RowKit in
theorem Tryd.strings_IndexByte (s : ByteArray) (c : Int) (w : World) :
    Calls Tryd.prog 109 #[.string s, .int .u8 c] w fun e w' => e = .returned (.int .i64 (Lib.indexByte s.data.toList c.toNat.toUInt8)) ∧ w' = w := Any.strings_IndexByte Tryd.lays137 s c w
def Tryd.laysM171_ren : Go.Shelf.Ren := ⟨fun | 171 => 55 | 243 => 72 | 246 => 81 | 283 => 91 | 284 => 92 | 285 => 93 | 286 => 94 | 129 => 100 | 317 => 99 | 318 => 101 | 319 => 102 | 320 => 103 | 337 => 107 | 338 => 108 | n => n, fun | 3 => 3 | 9 => 9 | 2 => 2 | 4 => 4 | 171 => 132 | 0 => 0 | 53 => 114 | 37 => 115 | 5 => 5 | 173 => 135 | 212 => 142 | 51 => 143 | 20 => 20 | 213 => 144 | 46 => 145 | 232 => 156 | 233 => 157 | n => n, fun | 17 => 0 | 18 => 3 | 19 => 4 | n => n⟩
theorem Tryd.laysM171 : Go.Proofs.LaysM.n171 Tryd.prog Tryd.laysM171_ren := {
  mixed := by kernel_rfl
  f129 := Tryd.func100.trans (congrArg some (by kernel_rfl))
  f171 := Tryd.func55.trans (congrArg some (by kernel_rfl))
  f243 := Tryd.func72.trans (congrArg some (by kernel_rfl))
  f246 := Tryd.func81.trans (congrArg some (by kernel_rfl))
  f283 := Tryd.func91.trans (congrArg some (by kernel_rfl))
  f284 := Tryd.func92.trans (congrArg some (by kernel_rfl))
  f285 := Tryd.func93.trans (congrArg some (by kernel_rfl))
  f286 := Tryd.func94.trans (congrArg some (by kernel_rfl))
  f317 := Tryd.func99.trans (congrArg some (by kernel_rfl))
  f318 := Tryd.func101.trans (congrArg some (by kernel_rfl))
  f319 := Tryd.func102.trans (congrArg some (by kernel_rfl))
  f320 := Tryd.func103.trans (congrArg some (by kernel_rfl))
  f337 := Tryd.func107.trans (congrArg some (by kernel_rfl))
  f338 := Tryd.func108.trans (congrArg some (by kernel_rfl))
  t0 := Tryd.underlying0
  a0 := Tryd.isAgg0
  z0 := Tryd.sizeOf0
  v0 := Tryd.zeroValue0
  t2 := Tryd.underlying2
  a2 := Tryd.isAgg2
  z2 := Tryd.sizeOf2
  v2 := Tryd.zeroValue2
  t3 := Tryd.underlying3
  a3 := Tryd.isAgg3
  z3 := Tryd.sizeOf3
  v3 := Tryd.zeroValue3
  t4 := Tryd.underlying4
  a4 := Tryd.isAgg4
  z4 := Tryd.sizeOf4
  v4 := Tryd.zeroValue4
  t5 := Tryd.underlying5
  a5 := Tryd.isAgg5
  z5 := Tryd.sizeOf5
  v5 := Tryd.zeroValue5
  t9 := Tryd.underlying9
  a9 := Tryd.isAgg9
  z9 := Tryd.sizeOf9
  v9 := Tryd.zeroValue9
  t20 := Tryd.underlying20
  a20 := Tryd.isAgg20
  z20 := Tryd.sizeOf20
  v20 := Tryd.zeroValue20
  t37 := Tryd.underlying115
  a37 := Tryd.isAgg115
  z37 := Tryd.sizeOf115
  v37 := Tryd.zeroValue115
  t46 := Tryd.underlying145
  a46 := Tryd.isAgg145
  z46 := Tryd.sizeOf145
  v46 := Tryd.zeroValue145
  t51 := Tryd.underlying143
  a51 := Tryd.isAgg143
  z51 := Tryd.sizeOf143
  v51 := Tryd.zeroValue143
  t53 := Tryd.underlying114
  a53 := Tryd.isAgg114
  z53 := Tryd.sizeOf114
  v53 := Tryd.zeroValue114
  t171 := Tryd.underlying132
  a171 := Tryd.isAgg132
  z171 := Tryd.sizeOf132
  v171 := Tryd.zeroValue132
  t173 := Tryd.underlying135
  a173 := Tryd.isAgg135
  z173 := Tryd.sizeOf135
  v173 := Tryd.zeroValue135
  t212 := Tryd.underlying142
  a212 := Tryd.isAgg142
  z212 := Tryd.sizeOf142
  v212 := Tryd.zeroValue142
  t213 := Tryd.underlying144
  a213 := Tryd.isAgg144
  z213 := Tryd.sizeOf144
  t232 := Tryd.underlying156
  a232 := Tryd.isAgg156
  z232 := Tryd.sizeOf156
  v232 := Tryd.zeroValue156
  t233 := Tryd.underlying157
  a233 := Tryd.isAgg157
  z233 := Tryd.sizeOf157
  v233 := Tryd.zeroValue157
  g17 := by kernel_rfl
  g18 := by kernel_rfl
  g19 := by kernel_rfl
  i0 := by kernel_rfl
  i2 := by kernel_rfl
  i3 := by kernel_rfl
  i4 := by kernel_rfl
  i5 := by kernel_rfl
  i9 := by kernel_rfl
  i20 := by kernel_rfl
  i37 := by kernel_rfl
  i46 := by kernel_rfl
  i51 := by kernel_rfl
  i53 := by kernel_rfl
  i171 := by kernel_rfl
  i173 := by kernel_rfl
  i212 := by kernel_rfl
  i232 := by kernel_rfl
  i233 := by kernel_rfl
  m17 := by kernel_rfl
  m18 := by kernel_rfl
  m19 := by kernel_rfl }
open Go.RowKit Go.Sort Go.Lib in
theorem Tryd.strconv_Itoa (n : Int) (h0 : -9223372036854775808 ≤ n) (h1 : n ≤ 9223372036854775807) (w : World) (htab : Lib.TabIs Tryd.prog w "internal/strconv.uint64pow10" .u64 Lib.pow10Tab) :
    Calls Tryd.prog 55 #[.int .i64 n] w fun e w' => e = .returned (.string ⟨(Lib.itoa n).toArray⟩) ∧ ∃ k os, w' = grow (w.drewN k) os := Any.strconv_Itoa Tryd.laysM171 n h0 h1 w htab
end Go.Proofs
