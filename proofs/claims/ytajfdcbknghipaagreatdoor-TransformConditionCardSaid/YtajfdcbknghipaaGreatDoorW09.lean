/- The law TransformCondition of the package credencelaw23 answers true at every input and leaves its arguments as they were (Rows.TransformConditionCardSaid); no condition beyond the card's own: the three listed tables stand as the program's text lays them. Part 9 of 25. -/
import Derived.Shelf.Small.Bits
import Derived.Shelf.Small.Wraps
import Derived.Shelf.Strconv.Itoa0
import Derived.Shelf.Strconv.Itoa1
import Derived.Shelf.LaysM
import Derived.Shelf.Strconv.Itoa2
import Derived.Shelf.Sort.Plain
import Derived.Shelf.Strconv.AppendUint10
import Derived.Shelf.Strconv.AppendInt10
import Derived.Shelf.Strconv.AppendIntPublic10
import Derived.Ground.Names2Prog
import Derived.Shelf.Slices.Clone
import Derived.Shelf.Slices.CompactI
import Derived.Shelf.Slices.SearchI
import Derived.Shelf.Slices.Cells
import Derived.Shelf.Slices.In.SortNone
import Derived.Shelf.Slices.Empties
import Derived.Sort.LotD1
import Derived.Test.YtajfdcbknghipaaGreatDoorProg
import Derived.Test.YtajfdcbknghipaaGreatDoorW08
import Derived.Test.YtajfdcbknghipaaGreatDoorW06

section
/-
  DERIVED: THE SHELF's CONTRACTS AT THIS DUMP, IN PLAIN WORDS (tools/lay-plain.mjs out of 'TryzShelf.lean', which tools/lay-shelf.mjs wrote): THE SAME DECLARATIONS UNDER THE SAME NAMES: 'import', 'namespace', 'open', 'def', 'theorem' AND NOTHING ELSE: no command of the shelf's: FOR A HAND-IN. Each laying: the table of numbers ('.._ren') and one theorem, a field a fact of the dump's own or the kernel's comparison; each contract: ONE APPLICATION.
-/
namespace Go.Proofs
open Go.Shelf
def Tryz.lays128_ren : Go.Shelf.Ren := ⟨fun | 128 => 74 | n => n, fun | 51 => 94 | 3 => 3 | 4 => 4 | 46 => 97 | 5 => 5 | 9 => 9 | n => n, fun | n => n⟩
theorem Tryz.lays128 : Go.Proofs.Lays.n128 Tryz.prog Tryz.lays128_ren := {
  mixed := by kernel_rfl
  f128 := Tryz.func74.trans (congrArg some (by kernel_rfl))
  t3 := Tryz.underlying3
  a3 := Tryz.isAgg3
  z3 := Tryz.sizeOf3
  v3 := Tryz.zeroValue3
  t4 := Tryz.underlying4
  a4 := Tryz.isAgg4
  z4 := Tryz.sizeOf4
  v4 := Tryz.zeroValue4
  t5 := Tryz.underlying5
  a5 := Tryz.isAgg5
  z5 := Tryz.sizeOf5
  v5 := Tryz.zeroValue5
  t9 := Tryz.underlying9
  a9 := Tryz.isAgg9
  z9 := Tryz.sizeOf9
  v9 := Tryz.zeroValue9
  t46 := Tryz.underlying97
  a46 := Tryz.isAgg97
  z46 := Tryz.sizeOf97
  v46 := Tryz.zeroValue97
  t51 := Tryz.underlying94
  a51 := Tryz.isAgg94
  z51 := Tryz.sizeOf94
  v51 := Tryz.zeroValue94 }
/-- bits.Len32: "Len32 returns the minimum number of bits required to represent x; the result is 0 for x == 0.": IT RETURNS 'Lib.bitLen x'; the world is as it was. ('h0', 'h1': x is a uint32.) (LAID: no walk: one application.) -/
theorem Tryz.bits_Len32 (x : Int) (w : World) (h0 : 0 ≤ x) (h1 : x ≤ 4294967295) :
    Calls Tryz.prog 74 #[.int .u32 x] w fun e w' => e = .returned (.int .i64 (Lib.bitLen x.toNat)) ∧ w' = w := Any.bits_Len32 Tryz.lays128 x w h0 h1
def Tryz.lays125_ren : Go.Shelf.Ren := ⟨fun | 125 => 50 | 128 => 74 | 129 => 75 | n => n, fun | 46 => 97 | 3 => 3 | 51 => 94 | 53 => 49 | 4 => 4 | 5 => 5 | 9 => 9 | n => n, fun | n => n⟩
theorem Tryz.lays125 : Go.Proofs.Lays.n125 Tryz.prog Tryz.lays125_ren := {
  mixed := by kernel_rfl
  f125 := Tryz.func50.trans (congrArg some (by kernel_rfl))
  f128 := Tryz.func74.trans (congrArg some (by kernel_rfl))
  f129 := Tryz.func75.trans (congrArg some (by kernel_rfl))
  t3 := Tryz.underlying3
  a3 := Tryz.isAgg3
  z3 := Tryz.sizeOf3
  v3 := Tryz.zeroValue3
  t4 := Tryz.underlying4
  a4 := Tryz.isAgg4
  z4 := Tryz.sizeOf4
  v4 := Tryz.zeroValue4
  t5 := Tryz.underlying5
  a5 := Tryz.isAgg5
  z5 := Tryz.sizeOf5
  v5 := Tryz.zeroValue5
  t9 := Tryz.underlying9
  a9 := Tryz.isAgg9
  z9 := Tryz.sizeOf9
  v9 := Tryz.zeroValue9
  t46 := Tryz.underlying97
  a46 := Tryz.isAgg97
  z46 := Tryz.sizeOf97
  v46 := Tryz.zeroValue97
  t51 := Tryz.underlying94
  a51 := Tryz.isAgg94
  z51 := Tryz.sizeOf94
  v51 := Tryz.zeroValue94
  t53 := Tryz.underlying49
  a53 := Tryz.isAgg49
  z53 := Tryz.sizeOf49
  v53 := Tryz.zeroValue49 }
/-- bits.Len: "Len returns the minimum number of bits required to represent x; the result is 0 for x == 0.": IT RETURNS 'Lib.bitLen x'; the world is as it was. (A uint has 64 bits in the model.) ITS CALLEE bits.Len64 IS MET BY ITS OWN CONTRACT OFF THE SHELF (lay that first). (LAID: no walk: one application.) -/
theorem Tryz.bits_Len (x : Int) (w : World) (h0 : 0 ≤ x) (h1 : x ≤ 18446744073709551615) :
    Calls Tryz.prog 50 #[.int .u64 x] w fun e w' => e = .returned (.int .i64 (Lib.bitLen x.toNat)) ∧ w' = w := Any.bits_Len Tryz.lays125 x w h0 h1
def Tryz.lays215_ren : Go.Shelf.Ren := ⟨fun | 215 => 99 | n => n, fun | 3 => 3 | 4 => 4 | n => n, fun | n => n⟩
theorem Tryz.lays215 : Go.Proofs.Lays.n215 Tryz.prog Tryz.lays215_ren := {
  mixed := by kernel_rfl
  f215 := Tryz.func99.trans (congrArg some (by kernel_rfl))
  t3 := Tryz.underlying3
  a3 := Tryz.isAgg3
  z3 := Tryz.sizeOf3
  v3 := Tryz.zeroValue3
  t4 := Tryz.underlying4
  a4 := Tryz.isAgg4
  z4 := Tryz.sizeOf4
  v4 := Tryz.zeroValue4 }
open Go.RowKit in
/-- cmp.isNaN at int: 'x != x': false. (LAID: no walk: one application.) -/
theorem Tryz.cmp_isNaN_int (x : Int) (w : World) :
    Calls Tryz.prog 99 #[.int .i64 x] w fun e w' => e = .returned (.bool false) ∧ w' = w := Any.cmp_isNaN_int Tryz.lays215 x w
def Tryz.lays129_ren : Go.Shelf.Ren := ⟨fun | 129 => 75 | n => n, fun | 53 => 49 | 3 => 3 | 4 => 4 | 46 => 97 | 5 => 5 | 9 => 9 | n => n, fun | n => n⟩
theorem Tryz.lays129 : Go.Proofs.Lays.n129 Tryz.prog Tryz.lays129_ren := {
  mixed := by kernel_rfl
  f129 := Tryz.func75.trans (congrArg some (by kernel_rfl))
  t3 := Tryz.underlying3
  a3 := Tryz.isAgg3
  z3 := Tryz.sizeOf3
  v3 := Tryz.zeroValue3
  t4 := Tryz.underlying4
  a4 := Tryz.isAgg4
  z4 := Tryz.sizeOf4
  v4 := Tryz.zeroValue4
  t5 := Tryz.underlying5
  a5 := Tryz.isAgg5
  z5 := Tryz.sizeOf5
  v5 := Tryz.zeroValue5
  t9 := Tryz.underlying9
  a9 := Tryz.isAgg9
  z9 := Tryz.sizeOf9
  v9 := Tryz.zeroValue9
  t46 := Tryz.underlying97
  a46 := Tryz.isAgg97
  z46 := Tryz.sizeOf97
  v46 := Tryz.zeroValue97
  t53 := Tryz.underlying49
  a53 := Tryz.isAgg49
  z53 := Tryz.sizeOf49
  v53 := Tryz.zeroValue49 }
/-- bits.Len64: "Len64 returns the minimum number of bits required to represent x; the result is 0 for x == 0.": IT RETURNS 'Lib.bitLen x'; the world is as it was. ('h0', 'h1': x is a uint64.) (LAID: no walk: one application.) -/
theorem Tryz.bits_Len64 (x : Int) (w : World) (h0 : 0 ≤ x) (h1 : x ≤ 18446744073709551615) :
    Calls Tryz.prog 75 #[.int .u64 x] w fun e w' => e = .returned (.int .i64 (Lib.bitLen x.toNat)) ∧ w' = w := Any.bits_Len64 Tryz.lays129 x w h0 h1
def Tryz.lays317_ren : Go.Shelf.Ren := ⟨fun | 317 => 131 | n => n, fun | 3 => 3 | 46 => 97 | n => n, fun | n => n⟩
theorem Tryz.lays317 : Go.Proofs.Lays.n317 Tryz.prog Tryz.lays317_ren := {
  mixed := by kernel_rfl
  f317 := Tryz.func131.trans (congrArg some (by kernel_rfl))
  t3 := Tryz.underlying3
  a3 := Tryz.isAgg3
  z3 := Tryz.sizeOf3
  v3 := Tryz.zeroValue3
  t46 := Tryz.underlying97
  a46 := Tryz.isAgg97
  z46 := Tryz.sizeOf97
  v46 := Tryz.zeroValue97 }
open Go.Lib in
/-- internal/strconv.log10Pow2: "log10Pow2(x) returns ⌊log₁₀ 2**x⌋ = ⌊x * log₁₀ 2⌋.": '(x * 78913) >> 18', at an x up to 64 (a length in bits). The world is as it was. (LAID: no walk: one application.) -/
theorem Tryz.internal_strconv_log10Pow2 (x : Nat) (h : x ≤ 64) (w : World) :
    Calls Tryz.prog 131 #[.int .i64 x] w fun e w' => e = .returned (.int .i64 (Lib.l10 x)) ∧ w' = w := Any.internal_strconv_log10Pow2 Tryz.lays317 x h w
def Tryz.lays318_ren : Go.Shelf.Ren := ⟨fun | 318 => 132 | n => n, fun | 3 => 3 | 4 => 4 | n => n, fun | n => n⟩
theorem Tryz.lays318 : Go.Proofs.Lays.n318 Tryz.prog Tryz.lays318_ren := {
  mixed := by kernel_rfl
  f318 := Tryz.func132.trans (congrArg some (by kernel_rfl))
  t3 := Tryz.underlying3
  a3 := Tryz.isAgg3
  z3 := Tryz.sizeOf3
  v3 := Tryz.zeroValue3
  t4 := Tryz.underlying4
  a4 := Tryz.isAgg4
  z4 := Tryz.sizeOf4
  v4 := Tryz.zeroValue4 }
open Go.Lib in
/-- internal/strconv.bool2: "bool2 converts b to an integer: 1 for true, 0 for false." The world is as it was. (LAID: no walk: one application.) -/
theorem Tryz.internal_strconv_bool2_int (b : Bool) (w : World) :
    Calls Tryz.prog 132 #[.bool b] w fun e w' => e = .returned (.int .i64 (if b then 1 else 0)) ∧ w' = w := Any.internal_strconv_bool2_int Tryz.lays318 b w
def Tryz.lays283_ren : Go.Shelf.Ren := ⟨fun | 283 => 126 | n => n, fun | 3 => 3 | 9 => 9 | 4 => 4 | n => n, fun | n => n⟩
theorem Tryz.lays283 : Go.Proofs.Lays.n283 Tryz.prog Tryz.lays283_ren := {
  mixed := by kernel_rfl
  f283 := Tryz.func126.trans (congrArg some (by kernel_rfl))
  t3 := Tryz.underlying3
  a3 := Tryz.isAgg3
  z3 := Tryz.sizeOf3
  v3 := Tryz.zeroValue3
  t4 := Tryz.underlying4
  a4 := Tryz.isAgg4
  z4 := Tryz.sizeOf4
  v4 := Tryz.zeroValue4
  t9 := Tryz.underlying9
  a9 := Tryz.isAgg9
  z9 := Tryz.sizeOf9
  v9 := Tryz.zeroValue9 }
open Go.Lib in
/-- internal/strconv.small: "small returns the string for an i with 0 <= i < nSmalls.": i's decimal numeral. The world is as it was. (LAID: no walk: one application.) -/
theorem Tryz.internal_strconv_small (i : Nat) (h : i < 100) (w : World) :
    Calls Tryz.prog 126 #[.int .i64 i] w fun e w' => e = .returned (.string ⟨(Lib.decDigits i).toArray⟩) ∧ w' = w := Any.internal_strconv_small Tryz.lays283 i h w
def Tryz.laysM284_ren : Go.Shelf.Ren := ⟨fun | 284 => 127 | 129 => 75 | 317 => 131 | 318 => 132 | n => n, fun | 53 => 49 | 3 => 3 | 212 => 174 | 0 => 0 | 4 => 4 | 46 => 97 | 5 => 5 | 9 => 9 | n => n, fun | 17 => 0 | n => n⟩
theorem Tryz.laysM284 : Go.Proofs.LaysM.n284 Tryz.prog Tryz.laysM284_ren := {
  mixed := by kernel_rfl
  f129 := Tryz.func75.trans (congrArg some (by kernel_rfl))
  f284 := Tryz.func127.trans (congrArg some (by kernel_rfl))
  f317 := Tryz.func131.trans (congrArg some (by kernel_rfl))
  f318 := Tryz.func132.trans (congrArg some (by kernel_rfl))
  t0 := Tryz.underlying0
  a0 := Tryz.isAgg0
  z0 := Tryz.sizeOf0
  v0 := Tryz.zeroValue0
  t3 := Tryz.underlying3
  a3 := Tryz.isAgg3
  z3 := Tryz.sizeOf3
  v3 := Tryz.zeroValue3
  t4 := Tryz.underlying4
  a4 := Tryz.isAgg4
  z4 := Tryz.sizeOf4
  v4 := Tryz.zeroValue4
  t5 := Tryz.underlying5
  a5 := Tryz.isAgg5
  z5 := Tryz.sizeOf5
  v5 := Tryz.zeroValue5
  t9 := Tryz.underlying9
  a9 := Tryz.isAgg9
  z9 := Tryz.sizeOf9
  v9 := Tryz.zeroValue9
  t46 := Tryz.underlying97
  a46 := Tryz.isAgg97
  z46 := Tryz.sizeOf97
  v46 := Tryz.zeroValue97
  t53 := Tryz.underlying49
  a53 := Tryz.isAgg49
  z53 := Tryz.sizeOf49
  v53 := Tryz.zeroValue49
  t212 := Tryz.underlying174
  a212 := Tryz.isAgg174
  z212 := Tryz.sizeOf174
  v212 := Tryz.zeroValue174
  g17 := by kernel_rfl
  i0 := by kernel_rfl
  i3 := by kernel_rfl
  i4 := by kernel_rfl
  i5 := by kernel_rfl
  i9 := by kernel_rfl
  i46 := by kernel_rfl
  i53 := by kernel_rfl
  i212 := by kernel_rfl
  m17 := by kernel_rfl }
open Go.Lib in
/-- internal/strconv.numDigits, at a d that is not 0: THE NUMBER OF d's DECIMAL DIGITS. The world is as it was. (LAID: no walk: one application.) -/
theorem Tryz.internal_strconv_numDigits (u : Nat) (h1 : 1 ≤ u) (h2 : u < 18446744073709551616) (w : World) (htab : Lib.TabIs Tryz.prog w "internal/strconv.uint64pow10" .u64 Lib.pow10Tab) :
    Calls Tryz.prog 127 #[.int .u64 u] w fun e w' => e = .returned (.int .i64 (Lib.nDigits u)) ∧ w' = w := Any.internal_strconv_numDigits Tryz.laysM284 u h1 h2 w htab
def Tryz.lays285_ren : Go.Shelf.Ren := ⟨fun | 285 => 128 | n => n, fun | 37 => 135 | 53 => 49 | 3 => 3 | 4 => 4 | 51 => 94 | 9 => 9 | 5 => 5 | 0 => 0 | n => n, fun | n => n⟩
theorem Tryz.lays285 : Go.Proofs.Lays.n285 Tryz.prog Tryz.lays285_ren := {
  mixed := by kernel_rfl
  f285 := Tryz.func128.trans (congrArg some (by kernel_rfl))
  t0 := Tryz.underlying0
  a0 := Tryz.isAgg0
  z0 := Tryz.sizeOf0
  v0 := Tryz.zeroValue0
  t3 := Tryz.underlying3
  a3 := Tryz.isAgg3
  z3 := Tryz.sizeOf3
  v3 := Tryz.zeroValue3
  t4 := Tryz.underlying4
  a4 := Tryz.isAgg4
  z4 := Tryz.sizeOf4
  v4 := Tryz.zeroValue4
  t5 := Tryz.underlying5
  a5 := Tryz.isAgg5
  z5 := Tryz.sizeOf5
  v5 := Tryz.zeroValue5
  t9 := Tryz.underlying9
  a9 := Tryz.isAgg9
  z9 := Tryz.sizeOf9
  v9 := Tryz.zeroValue9
  t37 := Tryz.underlying135
  a37 := Tryz.isAgg135
  z37 := Tryz.sizeOf135
  v37 := Tryz.zeroValue135
  t51 := Tryz.underlying94
  a51 := Tryz.isAgg94
  z51 := Tryz.sizeOf94
  v51 := Tryz.zeroValue94
  t53 := Tryz.underlying49
  a53 := Tryz.isAgg49
  z53 := Tryz.sizeOf49
  v53 := Tryz.zeroValue49 }
open Go.RowKit Go.Sort Go.Lib in
/-- internal/strconv.formatBase10: "formatBase10 formats the decimal representation of u into a. The caller is responsible for ensuring that a is big enough to hold u. If a is too big, leading zeros will be filled in as needed.": THE ROW HOLDS u's DIGITS ('FmtInv .. 0 ..': every place t holds 'dg u (len - 1 - t)'); all else is as it was but for the count of draws. (LAID: no walk: one application.) -/
theorem Tryz.internal_strconv_formatBase10 (blk off cap : Nat) (u : Nat) (d : Array UInt8) (w : World) (hH : Holds (fun (b : UInt8) => Value.int .u8 (b.toNat : Int)) w blk off d) (hu : u < 10 ^ d.size) (hu64 : u < 18446744073709551616) (hsz : d.size < 4611686018427387904) :
    Calls Tryz.prog 128 #[.slice (some ⟨blk, off, none⟩) d.size cap, .int .u64 u] w fun e w' =>
      e = .returned (.tuple #[]) ∧ ∃ (n v' : Nat) (dk : Array UInt8), w' = (putRow (fun (b : UInt8) => Value.int .u8 (b.toNat : Int)) w blk off dk).drewN n ∧ FmtInv d.size u 0 v' dk := Any.internal_strconv_formatBase10 Tryz.lays285 blk off cap u d w hH hu hu64 hsz
def Tryz.lays189_ren : Go.Shelf.Ren := ⟨fun | 189 => 28 | 125 => 50 | 257 => 49 | 128 => 74 | 129 => 75 | 294 => 65 | 295 => 66 | 296 => 67 | 297 => 68 | 298 => 69 | 299 => 70 | 216 => 71 | 300 => 72 | 301 => 73 | 328 => 94 | 329 => 95 | 330 => 96 | 331 => 97 | 332 => 98 | 215 => 99 | 343 => 108 | n => n, fun | 28 => 25 | 3 => 3 | 46 => 97 | 0 => 0 | 51 => 94 | 53 => 49 | 4 => 4 | 183 => 124 | 182 => 123 | 131 => 91 | 5 => 5 | 9 => 9 | 218 => 143 | 222 => 147 | 228 => 152 | 229 => 153 | n => n, fun | n => n⟩
theorem Tryz.lays189 : Go.Proofs.Lays.n189 Tryz.prog Tryz.lays189_ren := {
  mixed := by kernel_rfl
  f125 := Tryz.func50.trans (congrArg some (by kernel_rfl))
  f128 := Tryz.func74.trans (congrArg some (by kernel_rfl))
  f129 := Tryz.func75.trans (congrArg some (by kernel_rfl))
  f189 := Tryz.func28.trans (congrArg some (by kernel_rfl))
  f215 := Tryz.func99.trans (congrArg some (by kernel_rfl))
  f216 := Tryz.func71.trans (congrArg some (by kernel_rfl))
  f257 := Tryz.func49.trans (congrArg some (by kernel_rfl))
  f294 := Tryz.func65.trans (congrArg some (by kernel_rfl))
  f295 := Tryz.func66.trans (congrArg some (by kernel_rfl))
  f296 := Tryz.func67.trans (congrArg some (by kernel_rfl))
  f297 := Tryz.func68.trans (congrArg some (by kernel_rfl))
  f298 := Tryz.func69.trans (congrArg some (by kernel_rfl))
  f299 := Tryz.func70.trans (congrArg some (by kernel_rfl))
  f300 := Tryz.func72.trans (congrArg some (by kernel_rfl))
  f301 := Tryz.func73.trans (congrArg some (by kernel_rfl))
  f328 := Tryz.func94.trans (congrArg some (by kernel_rfl))
  f329 := Tryz.func95.trans (congrArg some (by kernel_rfl))
  f330 := Tryz.func96.trans (congrArg some (by kernel_rfl))
  f331 := Tryz.func97.trans (congrArg some (by kernel_rfl))
  f332 := Tryz.func98.trans (congrArg some (by kernel_rfl))
  f343 := Tryz.func108.trans (congrArg some (by kernel_rfl))
  t0 := Tryz.underlying0
  a0 := Tryz.isAgg0
  z0 := Tryz.sizeOf0
  v0 := Tryz.zeroValue0
  t3 := Tryz.underlying3
  a3 := Tryz.isAgg3
  z3 := Tryz.sizeOf3
  v3 := Tryz.zeroValue3
  t4 := Tryz.underlying4
  a4 := Tryz.isAgg4
  z4 := Tryz.sizeOf4
  v4 := Tryz.zeroValue4
  t5 := Tryz.underlying5
  a5 := Tryz.isAgg5
  z5 := Tryz.sizeOf5
  v5 := Tryz.zeroValue5
  t9 := Tryz.underlying9
  a9 := Tryz.isAgg9
  z9 := Tryz.sizeOf9
  v9 := Tryz.zeroValue9
  t28 := Tryz.underlying25
  a28 := Tryz.isAgg25
  z28 := Tryz.sizeOf25
  v28 := Tryz.zeroValue25
  t46 := Tryz.underlying97
  a46 := Tryz.isAgg97
  z46 := Tryz.sizeOf97
  v46 := Tryz.zeroValue97
  t51 := Tryz.underlying94
  a51 := Tryz.isAgg94
  z51 := Tryz.sizeOf94
  v51 := Tryz.zeroValue94
  t53 := Tryz.underlying49
  a53 := Tryz.isAgg49
  z53 := Tryz.sizeOf49
  v53 := Tryz.zeroValue49
  t131 := Tryz.underlying91
  a131 := Tryz.isAgg91
  z131 := Tryz.sizeOf91
  v131 := Tryz.zeroValue91
  t182 := Tryz.underlying123
  a182 := Tryz.isAgg123
  z182 := Tryz.sizeOf123
  v182 := Tryz.zeroValue123
  t183 := Tryz.underlying124
  a183 := Tryz.isAgg124
  z183 := Tryz.sizeOf124
  v183 := Tryz.zeroValue124
  t218 := Tryz.underlying143
  a218 := Tryz.isAgg143
  z218 := Tryz.sizeOf143
  v218 := Tryz.zeroValue143
  t222 := Tryz.underlying147
  a222 := Tryz.isAgg147
  z222 := Tryz.sizeOf147
  v222 := Tryz.zeroValue147
  t228 := Tryz.underlying152
  a228 := Tryz.isAgg152
  z228 := Tryz.sizeOf152
  v228 := Tryz.zeroValue152
  t229 := Tryz.underlying153
  a229 := Tryz.isAgg153
  z229 := Tryz.sizeOf153
  v229 := Tryz.zeroValue153 }
open Go.Sort Go.RowKit in
theorem Tryz.slices_Sort_int (blk off cap : Nat) (zs : List Int) (w : World) (hH : Holds (Value.int .i64) w blk off zs.toArray) (hblk : blk < w.heap.size) (hsz : zs.length < 4611686018427387904) :
    Calls Tryz.prog 28 #[.slice (some ⟨blk, off, none⟩) zs.length cap] w fun e w' =>
      e = .returned (.tuple #[]) ∧ ∃ n os, w' = grow (putRow (Value.int .i64) (Sort.ahead w n) blk off (zs.mergeSort fun x y => decide (x ≤ y)).toArray) os := Any.slices_Sort_int Tryz.lays189 blk off cap zs w hH hblk hsz
def Tryz.laysM288_ren : Go.Shelf.Ren := ⟨fun | 288 => 118 | 283 => 126 | 284 => 127 | 285 => 128 | 286 => 129 | 129 => 75 | 317 => 131 | 318 => 132 | 319 => 133 | 320 => 134 | 337 => 135 | 338 => 136 | n => n, fun | 37 => 135 | 53 => 49 | 3 => 3 | 4 => 4 | 9 => 9 | 171 => 168 | 0 => 0 | 173 => 170 | 212 => 174 | 51 => 94 | 5 => 5 | 20 => 20 | 213 => 175 | 46 => 97 | 232 => 176 | 233 => 177 | n => n, fun | 17 => 0 | 18 => 1 | 19 => 2 | n => n⟩
theorem Tryz.laysM288 : Go.Proofs.LaysM.n288 Tryz.prog Tryz.laysM288_ren := {
  mixed := by kernel_rfl
  f129 := Tryz.func75.trans (congrArg some (by kernel_rfl))
  f283 := Tryz.func126.trans (congrArg some (by kernel_rfl))
  f284 := Tryz.func127.trans (congrArg some (by kernel_rfl))
  f285 := Tryz.func128.trans (congrArg some (by kernel_rfl))
  f286 := Tryz.func129.trans (congrArg some (by kernel_rfl))
  f288 := Tryz.func118.trans (congrArg some (by kernel_rfl))
  f317 := Tryz.func131.trans (congrArg some (by kernel_rfl))
  f318 := Tryz.func132.trans (congrArg some (by kernel_rfl))
  f319 := Tryz.func133.trans (congrArg some (by kernel_rfl))
  f320 := Tryz.func134.trans (congrArg some (by kernel_rfl))
  f337 := Tryz.func135.trans (congrArg some (by kernel_rfl))
  f338 := Tryz.func136.trans (congrArg some (by kernel_rfl))
  t0 := Tryz.underlying0
  a0 := Tryz.isAgg0
  z0 := Tryz.sizeOf0
  v0 := Tryz.zeroValue0
  t3 := Tryz.underlying3
  a3 := Tryz.isAgg3
  z3 := Tryz.sizeOf3
  v3 := Tryz.zeroValue3
  t4 := Tryz.underlying4
  a4 := Tryz.isAgg4
  z4 := Tryz.sizeOf4
  v4 := Tryz.zeroValue4
  t5 := Tryz.underlying5
  a5 := Tryz.isAgg5
  z5 := Tryz.sizeOf5
  v5 := Tryz.zeroValue5
  t9 := Tryz.underlying9
  a9 := Tryz.isAgg9
  z9 := Tryz.sizeOf9
  v9 := Tryz.zeroValue9
  t20 := Tryz.underlying20
  a20 := Tryz.isAgg20
  z20 := Tryz.sizeOf20
  v20 := Tryz.zeroValue20
  t37 := Tryz.underlying135
  a37 := Tryz.isAgg135
  z37 := Tryz.sizeOf135
  v37 := Tryz.zeroValue135
  t46 := Tryz.underlying97
  a46 := Tryz.isAgg97
  z46 := Tryz.sizeOf97
  v46 := Tryz.zeroValue97
  t51 := Tryz.underlying94
  a51 := Tryz.isAgg94
  z51 := Tryz.sizeOf94
  v51 := Tryz.zeroValue94
  t53 := Tryz.underlying49
  a53 := Tryz.isAgg49
  z53 := Tryz.sizeOf49
  v53 := Tryz.zeroValue49
  t171 := Tryz.underlying168
  a171 := Tryz.isAgg168
  z171 := Tryz.sizeOf168
  v171 := Tryz.zeroValue168
  t173 := Tryz.underlying170
  a173 := Tryz.isAgg170
  z173 := Tryz.sizeOf170
  v173 := Tryz.zeroValue170
  t212 := Tryz.underlying174
  a212 := Tryz.isAgg174
  z212 := Tryz.sizeOf174
  v212 := Tryz.zeroValue174
  t213 := Tryz.underlying175
  a213 := Tryz.isAgg175
  z213 := Tryz.sizeOf175
  t232 := Tryz.underlying176
  a232 := Tryz.isAgg176
  z232 := Tryz.sizeOf176
  v232 := Tryz.zeroValue176
  t233 := Tryz.underlying177
  a233 := Tryz.isAgg177
  z233 := Tryz.sizeOf177
  v233 := Tryz.zeroValue177
  g17 := by kernel_rfl
  g18 := by kernel_rfl
  g19 := by kernel_rfl
  i0 := by kernel_rfl
  i3 := by kernel_rfl
  i4 := by kernel_rfl
  i5 := by kernel_rfl
  i9 := by kernel_rfl
  i20 := by kernel_rfl
  i37 := by kernel_rfl
  i46 := by kernel_rfl
  i51 := by kernel_rfl
  i53 := by kernel_rfl
  i171 := by kernel_rfl
  i173 := by kernel_rfl
  i212 := by kernel_rfl
  i232 := by kernel_rfl
  i233 := by kernel_rfl
  m17 := by kernel_rfl
  m18 := by kernel_rfl
  m19 := by kernel_rfl }
open Go.RowKit Go.Sort Go.Lib in
/-- internal/strconv.AppendUint(dst, i, 10), i BELOW 100: WHAT COMES BACK OWNS dst's CELLS AND, BEHIND THEM, i's DECIMAL NUMERAL. No table is read. Below the call's own blocks nothing has turned. (LAID: no walk: one application.) -/
theorem Tryz.internal_strconv_AppendUint_10_small (B n u : Nat) (hu : u < 100) (sv : Value) (xs : List Value) (w : World) (hown : w.ownsRow B 5 1 sv n xs) (hBw : B ≤ w.heap.size) (hlim : n + 20 ≤ 140737488355328) :
    Calls Tryz.prog 118 #[sv, .int .u64 u, .int .i64 10] w fun e w' => ∃ v', e = .returned v' ∧ w'.ownsRow B 5 1 v' (n + (Lib.decDigits u).length) (xs ++ Lib.byteCells (Lib.decDigits u)) ∧ Below B w w' ∧ Lib.OthersKept 5 none w w' := Any.internal_strconv_AppendUint_10_small Tryz.laysM288 B n u hu sv xs w hown hBw hlim
open Go.RowKit Go.Sort Go.Lib in
/-- internal/strconv.AppendUint(dst, i, 10), i FROM 100 ON: likewise; the digits are laid in an array of the call's own and appended. (LAID: no walk: one application.) -/
theorem Tryz.internal_strconv_AppendUint_10_big (B n u : Nat) (hu : 100 ≤ u) (hu64 : u < 18446744073709551616) (sv : Value) (xs : List Value) (w : World) (hown : w.ownsRow B 5 1 sv n xs) (hBw : B ≤ w.heap.size) (hlim : n + 20 ≤ 140737488355328) (htab : Lib.TabIs Tryz.prog w "internal/strconv.uint64pow10" .u64 Lib.pow10Tab) :
    Calls Tryz.prog 118 #[sv, .int .u64 u, .int .i64 10] w fun e w' => ∃ v', e = .returned v' ∧ w'.ownsRow B 5 1 v' (n + (Lib.decDigits u).length) (xs ++ Lib.byteCells (Lib.decDigits u)) ∧ Below B w w' ∧ Lib.OthersKept 5 none w w' := Any.internal_strconv_AppendUint_10_big Tryz.laysM288 B n u hu hu64 sv xs w hown hBw hlim htab
open Go.RowKit Go.Sort Go.Lib in
/-- internal/strconv.AppendUint(dst, i, 10): the two contracts as one. NO WALK. (LAID: no walk: one application.) -/
theorem Tryz.internal_strconv_AppendUint_10 (B n u : Nat) (hu64 : u < 18446744073709551616) (sv : Value) (xs : List Value) (w : World) (hown : w.ownsRow B 5 1 sv n xs) (hBw : B ≤ w.heap.size) (hlim : n + 20 ≤ 140737488355328) (htab : Lib.TabIs Tryz.prog w "internal/strconv.uint64pow10" .u64 Lib.pow10Tab) :
    Calls Tryz.prog 118 #[sv, .int .u64 u, .int .i64 10] w fun e w' => ∃ v', e = .returned v' ∧ w'.ownsRow B 5 1 v' (n + (Lib.decDigits u).length) (xs ++ Lib.byteCells (Lib.decDigits u)) ∧ Below B w w' ∧ Lib.OthersKept 5 none w w' := Any.internal_strconv_AppendUint_10 Tryz.laysM288 B n u hu64 sv xs w hown hBw hlim htab
def Tryz.laysM249_ren : Go.Shelf.Ren := ⟨fun | 249 => 102 | 288 => 118 | 283 => 126 | 284 => 127 | 285 => 128 | 286 => 129 | 129 => 75 | 317 => 131 | 318 => 132 | 319 => 133 | 320 => 134 | 337 => 135 | 338 => 136 | n => n, fun | 37 => 135 | 2 => 2 | 3 => 3 | 53 => 49 | 4 => 4 | 9 => 9 | 171 => 168 | 0 => 0 | 173 => 170 | 212 => 174 | 51 => 94 | 5 => 5 | 20 => 20 | 213 => 175 | 46 => 97 | 232 => 176 | 233 => 177 | n => n, fun | 17 => 0 | 18 => 1 | 19 => 2 | n => n⟩
theorem Tryz.laysM249 : Go.Proofs.LaysM.n249 Tryz.prog Tryz.laysM249_ren := {
  mixed := by kernel_rfl
  f129 := Tryz.func75.trans (congrArg some (by kernel_rfl))
  f249 := Tryz.func102.trans (congrArg some (by kernel_rfl))
  f283 := Tryz.func126.trans (congrArg some (by kernel_rfl))
  f284 := Tryz.func127.trans (congrArg some (by kernel_rfl))
  f285 := Tryz.func128.trans (congrArg some (by kernel_rfl))
  f286 := Tryz.func129.trans (congrArg some (by kernel_rfl))
  f288 := Tryz.func118.trans (congrArg some (by kernel_rfl))
  f317 := Tryz.func131.trans (congrArg some (by kernel_rfl))
  f318 := Tryz.func132.trans (congrArg some (by kernel_rfl))
  f319 := Tryz.func133.trans (congrArg some (by kernel_rfl))
  f320 := Tryz.func134.trans (congrArg some (by kernel_rfl))
  f337 := Tryz.func135.trans (congrArg some (by kernel_rfl))
  f338 := Tryz.func136.trans (congrArg some (by kernel_rfl))
  t0 := Tryz.underlying0
  a0 := Tryz.isAgg0
  z0 := Tryz.sizeOf0
  v0 := Tryz.zeroValue0
  t2 := Tryz.underlying2
  a2 := Tryz.isAgg2
  z2 := Tryz.sizeOf2
  v2 := Tryz.zeroValue2
  t3 := Tryz.underlying3
  a3 := Tryz.isAgg3
  z3 := Tryz.sizeOf3
  v3 := Tryz.zeroValue3
  t4 := Tryz.underlying4
  a4 := Tryz.isAgg4
  z4 := Tryz.sizeOf4
  v4 := Tryz.zeroValue4
  t5 := Tryz.underlying5
  a5 := Tryz.isAgg5
  z5 := Tryz.sizeOf5
  v5 := Tryz.zeroValue5
  t9 := Tryz.underlying9
  a9 := Tryz.isAgg9
  z9 := Tryz.sizeOf9
  v9 := Tryz.zeroValue9
  t20 := Tryz.underlying20
  a20 := Tryz.isAgg20
  z20 := Tryz.sizeOf20
  v20 := Tryz.zeroValue20
  t37 := Tryz.underlying135
  a37 := Tryz.isAgg135
  z37 := Tryz.sizeOf135
  v37 := Tryz.zeroValue135
  t46 := Tryz.underlying97
  a46 := Tryz.isAgg97
  z46 := Tryz.sizeOf97
  v46 := Tryz.zeroValue97
  t51 := Tryz.underlying94
  a51 := Tryz.isAgg94
  z51 := Tryz.sizeOf94
  v51 := Tryz.zeroValue94
  t53 := Tryz.underlying49
  a53 := Tryz.isAgg49
  z53 := Tryz.sizeOf49
  v53 := Tryz.zeroValue49
  t171 := Tryz.underlying168
  a171 := Tryz.isAgg168
  z171 := Tryz.sizeOf168
  v171 := Tryz.zeroValue168
  t173 := Tryz.underlying170
  a173 := Tryz.isAgg170
  z173 := Tryz.sizeOf170
  v173 := Tryz.zeroValue170
  t212 := Tryz.underlying174
  a212 := Tryz.isAgg174
  z212 := Tryz.sizeOf174
  v212 := Tryz.zeroValue174
  t213 := Tryz.underlying175
  a213 := Tryz.isAgg175
  z213 := Tryz.sizeOf175
  t232 := Tryz.underlying176
  a232 := Tryz.isAgg176
  z232 := Tryz.sizeOf176
  v232 := Tryz.zeroValue176
  t233 := Tryz.underlying177
  a233 := Tryz.isAgg177
  z233 := Tryz.sizeOf177
  v233 := Tryz.zeroValue177
  g17 := by kernel_rfl
  g18 := by kernel_rfl
  g19 := by kernel_rfl
  i0 := by kernel_rfl
  i2 := by kernel_rfl
  i3 := by kernel_rfl
  i4 := by kernel_rfl
  i5 := by kernel_rfl
  i9 := by kernel_rfl
  i20 := by kernel_rfl
  i37 := by kernel_rfl
  i46 := by kernel_rfl
  i51 := by kernel_rfl
  i53 := by kernel_rfl
  i171 := by kernel_rfl
  i173 := by kernel_rfl
  i212 := by kernel_rfl
  i232 := by kernel_rfl
  i233 := by kernel_rfl
  m17 := by kernel_rfl
  m18 := by kernel_rfl
  m19 := by kernel_rfl }
open Go.RowKit Go.Sort Go.Lib in
/-- internal/strconv.AppendInt: "AppendInt appends the string form of the integer i, as generated by FormatInt, to dst and returns the extended buffer.": AT BASE 10: WHAT COMES BACK OWNS dst's CELLS AND, BEHIND THEM, i's DECIMAL NUMERAL ('Lib.itoa i': at most 20 bytes), for every int64. Below the call's own blocks nothing has turned. (LAID: no walk: one application.) -/
theorem Tryz.internal_strconv_AppendInt_10 (B n : Nat) (i : Int) (h0 : -9223372036854775808 ≤ i) (h1 : i ≤ 9223372036854775807) (sv : Value) (xs : List Value) (w : World) (hown : w.ownsRow B 5 1 sv n xs) (hBw : B ≤ w.heap.size) (hlim : n + 21 ≤ 140737488355328) (htab : Lib.TabBelow Tryz.prog B w "internal/strconv.uint64pow10" .u64 Lib.pow10Tab) :
    Calls Tryz.prog 102 #[sv, .int .i64 i, .int .i64 10] w fun e w' => ∃ v', e = .returned v' ∧ w'.ownsRow B 5 1 v' (n + (Lib.itoa i).length) (xs ++ Lib.byteCells (Lib.itoa i)) ∧ Below B w w' ∧ Lib.OthersKept 5 none w w' := Any.internal_strconv_AppendInt_10 Tryz.laysM249 B n i h0 h1 sv xs w hown hBw hlim htab
def Tryz.laysM176_ren : Go.Shelf.Ren := ⟨fun | 176 => 81 | 249 => 102 | 288 => 118 | 283 => 126 | 284 => 127 | 285 => 128 | 286 => 129 | 129 => 75 | 317 => 131 | 318 => 132 | 319 => 133 | 320 => 134 | 337 => 135 | 338 => 136 | n => n, fun | 37 => 135 | 2 => 2 | 3 => 3 | 53 => 49 | 4 => 4 | 9 => 9 | 171 => 168 | 0 => 0 | 173 => 170 | 212 => 174 | 51 => 94 | 5 => 5 | 20 => 20 | 213 => 175 | 46 => 97 | 232 => 176 | 233 => 177 | n => n, fun | 17 => 0 | 18 => 1 | 19 => 2 | n => n⟩
theorem Tryz.laysM176 : Go.Proofs.LaysM.n176 Tryz.prog Tryz.laysM176_ren := {
  mixed := by kernel_rfl
  f129 := Tryz.func75.trans (congrArg some (by kernel_rfl))
  f176 := Tryz.func81.trans (congrArg some (by kernel_rfl))
  f249 := Tryz.func102.trans (congrArg some (by kernel_rfl))
  f283 := Tryz.func126.trans (congrArg some (by kernel_rfl))
  f284 := Tryz.func127.trans (congrArg some (by kernel_rfl))
  f285 := Tryz.func128.trans (congrArg some (by kernel_rfl))
  f286 := Tryz.func129.trans (congrArg some (by kernel_rfl))
  f288 := Tryz.func118.trans (congrArg some (by kernel_rfl))
  f317 := Tryz.func131.trans (congrArg some (by kernel_rfl))
  f318 := Tryz.func132.trans (congrArg some (by kernel_rfl))
  f319 := Tryz.func133.trans (congrArg some (by kernel_rfl))
  f320 := Tryz.func134.trans (congrArg some (by kernel_rfl))
  f337 := Tryz.func135.trans (congrArg some (by kernel_rfl))
  f338 := Tryz.func136.trans (congrArg some (by kernel_rfl))
  t0 := Tryz.underlying0
  a0 := Tryz.isAgg0
  z0 := Tryz.sizeOf0
  v0 := Tryz.zeroValue0
  t2 := Tryz.underlying2
  a2 := Tryz.isAgg2
  z2 := Tryz.sizeOf2
  v2 := Tryz.zeroValue2
  t3 := Tryz.underlying3
  a3 := Tryz.isAgg3
  z3 := Tryz.sizeOf3
  v3 := Tryz.zeroValue3
  t4 := Tryz.underlying4
  a4 := Tryz.isAgg4
  z4 := Tryz.sizeOf4
  v4 := Tryz.zeroValue4
  t5 := Tryz.underlying5
  a5 := Tryz.isAgg5
  z5 := Tryz.sizeOf5
  v5 := Tryz.zeroValue5
  t9 := Tryz.underlying9
  a9 := Tryz.isAgg9
  z9 := Tryz.sizeOf9
  v9 := Tryz.zeroValue9
  t20 := Tryz.underlying20
  a20 := Tryz.isAgg20
  z20 := Tryz.sizeOf20
  v20 := Tryz.zeroValue20
  t37 := Tryz.underlying135
  a37 := Tryz.isAgg135
  z37 := Tryz.sizeOf135
  v37 := Tryz.zeroValue135
  t46 := Tryz.underlying97
  a46 := Tryz.isAgg97
  z46 := Tryz.sizeOf97
  v46 := Tryz.zeroValue97
  t51 := Tryz.underlying94
  a51 := Tryz.isAgg94
  z51 := Tryz.sizeOf94
  v51 := Tryz.zeroValue94
  t53 := Tryz.underlying49
  a53 := Tryz.isAgg49
  z53 := Tryz.sizeOf49
  v53 := Tryz.zeroValue49
  t171 := Tryz.underlying168
  a171 := Tryz.isAgg168
  z171 := Tryz.sizeOf168
  v171 := Tryz.zeroValue168
  t173 := Tryz.underlying170
  a173 := Tryz.isAgg170
  z173 := Tryz.sizeOf170
  v173 := Tryz.zeroValue170
  t212 := Tryz.underlying174
  a212 := Tryz.isAgg174
  z212 := Tryz.sizeOf174
  v212 := Tryz.zeroValue174
  t213 := Tryz.underlying175
  a213 := Tryz.isAgg175
  z213 := Tryz.sizeOf175
  t232 := Tryz.underlying176
  a232 := Tryz.isAgg176
  z232 := Tryz.sizeOf176
  v232 := Tryz.zeroValue176
  t233 := Tryz.underlying177
  a233 := Tryz.isAgg177
  z233 := Tryz.sizeOf177
  v233 := Tryz.zeroValue177
  g17 := by kernel_rfl
  g18 := by kernel_rfl
  g19 := by kernel_rfl
  i0 := by kernel_rfl
  i2 := by kernel_rfl
  i3 := by kernel_rfl
  i4 := by kernel_rfl
  i5 := by kernel_rfl
  i9 := by kernel_rfl
  i20 := by kernel_rfl
  i37 := by kernel_rfl
  i46 := by kernel_rfl
  i51 := by kernel_rfl
  i53 := by kernel_rfl
  i171 := by kernel_rfl
  i173 := by kernel_rfl
  i212 := by kernel_rfl
  i232 := by kernel_rfl
  i233 := by kernel_rfl
  m17 := by kernel_rfl
  m18 := by kernel_rfl
  m19 := by kernel_rfl }
open Go.RowKit Go.Sort Go.Lib in
/-- strconv.AppendInt: "AppendInt appends the string form of the integer i, as generated by FormatInt, to dst and returns the extended buffer.": AT BASE 10: WHAT COMES BACK OWNS dst's CELLS AND, BEHIND THEM, i's DECIMAL NUMERAL ('Lib.itoa i': at most 20 bytes), for every int64. Below the call's own blocks nothing has turned. (LAID: no walk: one application.) -/
theorem Tryz.strconv_AppendInt_10 (B n : Nat) (i : Int) (h0 : -9223372036854775808 ≤ i) (h1 : i ≤ 9223372036854775807) (sv : Value) (xs : List Value) (w : World) (hown : w.ownsRow B 5 1 sv n xs) (hBw : B ≤ w.heap.size) (hlim : n + 21 ≤ 140737488355328) (htab : Lib.TabBelow Tryz.prog B w "internal/strconv.uint64pow10" .u64 Lib.pow10Tab) :
    Calls Tryz.prog 81 #[sv, .int .i64 i, .int .i64 10] w fun e w' => ∃ v', e = .returned v' ∧ w'.ownsRow B 5 1 v' (n + (Lib.itoa i).length) (xs ++ Lib.byteCells (Lib.itoa i)) ∧ Below B w w' ∧ Lib.OthersKept 5 none w w' := Any.strconv_AppendInt_10 Tryz.laysM176 B n i h0 h1 sv xs w hown hBw hlim htab
def Tryz.laysNm215_ren : Go.Shelf.Ren := ⟨fun | 15 => 78 | n => n, fun | 22 => 25 | 3 => 3 | 4 => 4 | n => n, fun | n => n⟩
theorem Tryz.laysNm215 : Go.Proofs.Lays2.n15 Tryz.prog Tryz.laysNm215_ren := {
  mixed := by kernel_rfl
  f15 := Tryz.func78.trans (congrArg some (by kernel_rfl))
  t3 := Tryz.underlying3
  a3 := Tryz.isAgg3
  z3 := Tryz.sizeOf3
  v3 := Tryz.zeroValue3
  t4 := Tryz.underlying4
  a4 := Tryz.isAgg4
  z4 := Tryz.sizeOf4
  v4 := Tryz.zeroValue4
  t22 := Tryz.underlying25
  a22 := Tryz.isAgg25
  z22 := Tryz.sizeOf25
  v22 := Tryz.zeroValue25
  i3 := by kernel_rfl }
open Go.RowKit Go.Lib in
/-- slices.Clone at []int: "Clone returns a copy of the slice. The elements are copied using assignment, so this is a shallow clone. The result may have additional unused capacity. The result preserves the nilness of s.": OF A SLICE THAT IS NOT nil IT RETURNS A SLICE THAT IS NOT nil, OF THE SAME ELEMENTS, IN MEMORY OF THE CALL's OWN: in the how-to's words (6f): 'w'.ownsRow B e 1 v' n cells': v' begins at the head of a row among the blocks from B on (B: the heap's size at the call), not frozen, whose first cells are the elements · 'Below B w w'': below B all is as it was. The capacity is whatever the run-time gives. 'zs': what the cells behind the slice's address hold; 'zs.take n': its elements. (LAID: no walk: one application.) -/
theorem Tryz.slices_Clone_int (b off n c : Nat) (zs : List Int) (w : World) (hz : n ≤ zs.length) (hbig : n * 8 ≤ 140737488355328) (hc : ∀ j, j < zs.length → w.cell? ⟨b, off + j, none⟩ = some (.int .i64 (zs.getD j 0))) :
    Calls Tryz.prog 78 #[.slice (some ⟨b, off, none⟩) n c] w fun e w' => ∃ v', e = .returned v' ∧ w'.ownsRow w.heap.size 3 1 v' n ((zs.take n).map (Value.int .i64)) ∧ v' ≠ .slice none 0 0 ∧ Below w.heap.size w w' := Any.slices_Clone_int Tryz.laysNm215 b off n c zs w hz hbig hc
open Go.RowKit Go.Lib in
/-- The same at nil: nil comes back; the world is as it was. (LAID: no walk: one application.) -/
theorem Tryz.slices_Clone_int_nil (n c : Nat) (w : World) :
    Calls Tryz.prog 78 #[.slice none n c] w fun e w' => e = .returned (.slice none 0 0) ∧ w' = w := Any.slices_Clone_int_nil Tryz.laysNm215 n c w
open Go.RowKit Go.Lib in
/-- The same at a slice of length 0 that is not nil, WHATEVER ITS ADDRESS (no cell is asked for): a slice that is not nil and owns nothing comes back. (LAID: no walk: one application.) -/
theorem Tryz.slices_Clone_int_zero (a : Addr) (c : Nat) (w : World) :
    Calls Tryz.prog 78 #[.slice (some a) 0 c] w fun e w' => ∃ v', e = .returned v' ∧ w'.ownsRow w.heap.size 3 1 v' 0 [] ∧ v' ≠ .slice none 0 0 ∧ Below w.heap.size w w' := Any.slices_Clone_int_zero Tryz.laysNm215 a c w
def Tryz.laysNm220_ren : Go.Shelf.Ren := ⟨fun | 20 => 29 | n => n, fun | 22 => 25 | 3 => 3 | 4 => 4 | 0 => 0 | n => n, fun | n => n⟩
theorem Tryz.laysNm220 : Go.Proofs.Lays2.n20 Tryz.prog Tryz.laysNm220_ren := {
  mixed := by kernel_rfl
  f20 := Tryz.func29.trans (congrArg some (by kernel_rfl))
  t0 := Tryz.underlying0
  a0 := Tryz.isAgg0
  z0 := Tryz.sizeOf0
  v0 := Tryz.zeroValue0
  t3 := Tryz.underlying3
  a3 := Tryz.isAgg3
  z3 := Tryz.sizeOf3
  v3 := Tryz.zeroValue3
  t4 := Tryz.underlying4
  a4 := Tryz.isAgg4
  z4 := Tryz.sizeOf4
  v4 := Tryz.zeroValue4
  t22 := Tryz.underlying25
  a22 := Tryz.isAgg25
  z22 := Tryz.sizeOf25
  v22 := Tryz.zeroValue25
  i3 := by kernel_rfl }
open Go.RowKit Go.Lib Go.Sort in
/-- slices.Compact at []int, over an array: the library's two loops are walked. (LAID: no walk: one application.) -/
theorem Tryz.slices_Compact_int_arr (blk off cap : Nat) (d : Array Int) (w : World) (hH : Holds encI w blk off d) (hsz : d.size ≤ 9223372036854775807) (hcap : d.size ≤ cap) :
    Calls Tryz.prog 29 #[.slice (some ⟨blk, off, none⟩) d.size cap] w fun e w' => e = .returned (.slice (some ⟨blk, off, none⟩) (compactUpTo d d.size).length cap) ∧ ∃ q, w' = putRow encI (Sort.ahead w q) blk off (compactUpTo d d.size ++ List.replicate (d.size - (compactUpTo d d.size).length) 0).toArray := Any.slices_Compact_int_arr Tryz.laysNm220 blk off cap d w hH hsz hcap
open Go.RowKit Go.Lib Go.Sort in
/-- slices.Compact at []int: "Compact replaces consecutive runs of equal elements with a single copy. This is like the uniq command found on Unix. Compact modifies the contents of the slice s and returns the modified slice, which may have a smaller length. Compact zeroes the elements between the new length and the original length. The result preserves the nilness of s.": IT RETURNS THE SLICE CUT TO 'Lib.compact zs'; ITS CELLS HOLD 'Lib.compact zs', THEN ZERO VALUES up to the old length; all else is as it was, but for the count of draws. IN THE WORDS OF slices.Sort's CONTRACT ('Holds', 'putRow'): so the everyday 'slices.Sort(xs); xs = slices.Compact(xs)' goes from the one contract to the other. It asks 'zs.length ≤ cap' (every slice's: the reslicing 's[:k]' looks at it). Length 0, nil: '.._empty'. (LAID: no walk: one application.) -/
theorem Tryz.slices_Compact_int (blk off cap : Nat) (zs : List Int) (w : World) (hH : Holds (Value.int .i64) w blk off zs.toArray) (hsz : zs.length ≤ 9223372036854775807) (hcap : zs.length ≤ cap) :
    Calls Tryz.prog 29 #[.slice (some ⟨blk, off, none⟩) zs.length cap] w fun e w' => e = .returned (.slice (some ⟨blk, off, none⟩) (Lib.compact zs).length cap) ∧ ∃ q, w' = putRow (Value.int .i64) (Sort.ahead w q) blk off (Lib.compact zs ++ List.replicate (zs.length - (Lib.compact zs).length) 0).toArray := Any.slices_Compact_int Tryz.laysNm220 blk off cap zs w hH hsz hcap
open Go.RowKit Go.Lib Go.Sort in
/-- The same at a slice of length 0, a nil one too: it comes back as it is. (LAID: no walk: one application.) -/
theorem Tryz.slices_Compact_int_empty (a : Option Addr) (cap : Nat) (w : World) :
    Calls Tryz.prog 29 #[.slice a 0 cap] w fun e w' => e = .returned (.slice a 0 cap) ∧ w' = w := Any.slices_Compact_int_empty Tryz.laysNm220 a cap w
def Tryz.laysNm237_ren : Go.Shelf.Ren := ⟨fun | 37 => 99 | n => n, fun | 3 => 3 | 4 => 4 | n => n, fun | n => n⟩
theorem Tryz.laysNm237 : Go.Proofs.Lays2.n37 Tryz.prog Tryz.laysNm237_ren := {
  mixed := by kernel_rfl
  f37 := Tryz.func99.trans (congrArg some (by kernel_rfl))
  t3 := Tryz.underlying3
  a3 := Tryz.isAgg3
  z3 := Tryz.sizeOf3
  v3 := Tryz.zeroValue3
  t4 := Tryz.underlying4
  a4 := Tryz.isAgg4
  z4 := Tryz.sizeOf4
  v4 := Tryz.zeroValue4 }
open Go.RowKit Go.Lib in
/-- cmp.isNaN[int]: 'x != x': false. (LAID: no walk: one application.) -/
theorem Tryz.cmp_isNaN_int2 (x : Int) (w : World) :
    Calls Tryz.prog 99 #[.int .i64 x] w fun e w' => e = .returned (.bool false) ∧ w' = w := Any.cmp_isNaN_int2 Tryz.laysNm237 x w
def Tryz.laysNm232_ren : Go.Shelf.Ren := ⟨fun | 32 => 100 | n => n, fun | 3 => 3 | 4 => 4 | n => n, fun | n => n⟩
theorem Tryz.laysNm232 : Go.Proofs.Lays2.n32 Tryz.prog Tryz.laysNm232_ren := {
  mixed := by kernel_rfl
  f32 := Tryz.func100.trans (congrArg some (by kernel_rfl))
  t3 := Tryz.underlying3
  a3 := Tryz.isAgg3
  z3 := Tryz.sizeOf3
  v3 := Tryz.zeroValue3
  t4 := Tryz.underlying4
  a4 := Tryz.isAgg4
  z4 := Tryz.sizeOf4
  v4 := Tryz.zeroValue4 }
open Go.RowKit Go.Lib in
/-- slices.isNaN[int]: 'x != x': false. (LAID: no walk: one application.) -/
theorem Tryz.slices_isNaN_int2 (x : Int) (w : World) :
    Calls Tryz.prog 100 #[.int .i64 x] w fun e w' => e = .returned (.bool false) ∧ w' = w := Any.slices_isNaN_int2 Tryz.laysNm232 x w
def Tryz.laysNm231_ren : Go.Shelf.Ren := ⟨fun | 31 => 71 | 37 => 99 | n => n, fun | 3 => 3 | 4 => 4 | n => n, fun | n => n⟩
theorem Tryz.laysNm231 : Go.Proofs.Lays2.n31 Tryz.prog Tryz.laysNm231_ren := {
  mixed := by kernel_rfl
  f31 := Tryz.func71.trans (congrArg some (by kernel_rfl))
  f37 := Tryz.func99.trans (congrArg some (by kernel_rfl))
  t3 := Tryz.underlying3
  a3 := Tryz.isAgg3
  z3 := Tryz.sizeOf3
  v3 := Tryz.zeroValue3
  t4 := Tryz.underlying4
  a4 := Tryz.isAgg4
  z4 := Tryz.sizeOf4
  v4 := Tryz.zeroValue4 }
open Go.RowKit Go.Lib in
/-- cmp.Less[int]: "Less reports whether x is less than y.": 'x < y'; the world is as it was. (LAID: no walk: one application.) -/
theorem Tryz.cmp_Less_int2 (x y : Int) (w : World) :
    Calls Tryz.prog 71 #[.int .i64 x, .int .i64 y] w fun e w' => e = .returned (.bool (decide (x < y))) ∧ w' = w := Any.cmp_Less_int2 Tryz.laysNm231 x y w
def Tryz.laysNm225_ren : Go.Shelf.Ren := ⟨fun | 25 => 79 | 31 => 71 | 32 => 100 | 37 => 99 | n => n, fun | 22 => 25 | 3 => 3 | 4 => 4 | 40 => 97 | 0 => 0 | n => n, fun | n => n⟩
theorem Tryz.laysNm225 : Go.Proofs.Lays2.n25 Tryz.prog Tryz.laysNm225_ren := {
  mixed := by kernel_rfl
  f25 := Tryz.func79.trans (congrArg some (by kernel_rfl))
  f31 := Tryz.func71.trans (congrArg some (by kernel_rfl))
  f32 := Tryz.func100.trans (congrArg some (by kernel_rfl))
  f37 := Tryz.func99.trans (congrArg some (by kernel_rfl))
  t0 := Tryz.underlying0
  a0 := Tryz.isAgg0
  z0 := Tryz.sizeOf0
  v0 := Tryz.zeroValue0
  t3 := Tryz.underlying3
  a3 := Tryz.isAgg3
  z3 := Tryz.sizeOf3
  v3 := Tryz.zeroValue3
  t4 := Tryz.underlying4
  a4 := Tryz.isAgg4
  z4 := Tryz.sizeOf4
  v4 := Tryz.zeroValue4
  t22 := Tryz.underlying25
  a22 := Tryz.isAgg25
  z22 := Tryz.sizeOf25
  v22 := Tryz.zeroValue25
  t40 := Tryz.underlying97
  a40 := Tryz.isAgg97
  z40 := Tryz.sizeOf97
  v40 := Tryz.zeroValue97 }
open Go.RowKit Go.Lib in
/-- slices.BinarySearch at []int: "BinarySearch searches for target in a sorted slice and returns the earliest position where target is found, or the position where target would appear in the sort order; it also returns a bool saying whether the target is really found in the slice. The slice must be sorted in increasing order.": OF A SORTED SLICE IT RETURNS how many elements are less than the target, and whether the target is among the elements; the world is as it was but for the count of draws. 'zs': what the cells behind the slice's address hold; 'zs.take n': its elements. (Of a slice that is not sorted: no contract here.) (LAID: no walk: one application.) -/
theorem Tryz.slices_BinarySearch_int (b off n c : Nat) (zs : List Int) (x : Int) (w : World) (hz : n ≤ zs.length) (hbig : n < 4611686018427387904) (hc : ∀ j, j < zs.length → w.cell? ⟨b, off + j, none⟩ = some (.int .i64 (zs.getD j 0))) (hs : (zs.take n).Pairwise (· ≤ ·)) :
    Calls Tryz.prog 79 #[.slice (some ⟨b, off, none⟩) n c, .int .i64 x] w fun e w' => e = .returned (.tuple #[.int .i64 ((zs.take n).countP (· < x) : Nat), .bool ((zs.take n).contains x)]) ∧ ∃ q, w' = w.drewN q := Any.slices_BinarySearch_int Tryz.laysNm225 b off n c zs x w hz hbig hc hs
open Go.RowKit Go.Lib Go.Sort in
/-- slices.Compact at []int, of an argument: the slice cut to 'Lib.compact (elements)'; the n cells hold that, then zeros. (LAID: no walk: one application.) -/
theorem Tryz.slices_Compact_int_cells (b off n c : Nat) (zs : List Int) (w : World) (hz : n ≤ zs.length) (hbig : n ≤ 9223372036854775807) (hcap : n ≤ c) (hc : ∀ j, j < zs.length → w.cell? ⟨b, off + j, none⟩ = some (.int .i64 (zs.getD j 0))) (hf : ∀ j, j < n → w.frozen? ⟨b, off + j, none⟩ = false) :
    Calls Tryz.prog 29 #[.slice (some ⟨b, off, none⟩) n c] w fun e w' => e = .returned (.slice (some ⟨b, off, none⟩) (Lib.compact (zs.take n)).length c) ∧ ∃ q, w' = (w.drewN q).setCells b off ((Lib.compact (zs.take n) ++ List.replicate (n - (Lib.compact (zs.take n)).length) 0).map (Value.int .i64)) := Any.slices_Compact_int_cells Tryz.laysNm220 b off n c zs w hz hbig hcap hc hf
open Go.RowKit Go.Sort in
/-- .. and plain. (LAID: no walk: one application.) -/
theorem Tryz.slices_Sort_int_none (p : Option Addr) (cap : Nat) (w : World) :
    Calls Tryz.prog 28 #[.slice p 0 cap] w fun e w' => e = .returned (.tuple #[]) ∧ w' = w := Any.slices_Sort_int_none Tryz.lays189 p cap w
open Go.RowKit Go.Lib in
/-- slices.BinarySearch at []int of no element: position 0, not found; the world is as it was. (LAID: no walk: one application.) -/
theorem Tryz.slices_BinarySearch_int_empty (a : Option Addr) (c : Nat) (x : Int) (w : World) :
    Calls Tryz.prog 79 #[.slice a 0 c, .int .i64 x] w fun e w' => e = .returned (.tuple #[.int .i64 0, .bool false]) ∧ w' = w := Any.slices_BinarySearch_int_empty Tryz.laysNm225 a c x w
end Go.Proofs
end

section
/- Sorting in place, part four: patterns, pivots, the whole sort. Conditions as stated. -/
namespace Go.Proofs.YtajfdcbknghipaaGreatDoor
open Go Go.Sh Go.Sort

variable {w : World} {b n c : Nat} {d : Array Int} {rest : List Value} {t : TypeId}

theorem bitLenAux_leint16 : ∀ (f x : Nat), 0 < x → 2 ^ Lib.bitLenAux f x ≤ 2 * x
  | 0, x, h => by simp [Lib.bitLenAux]; omega
  | f + 1, x, h => by
    rw [Lib.bitLenAux, if_neg (by omega), Nat.add_comm, Nat.pow_succ]
    by_cases h1 : x / 2 = 0
    · rw [h1]
      have : Lib.bitLenAux f 0 = 0 := by cases f <;> simp [Lib.bitLenAux]
      rw [this]; omega
    · have := bitLenAux_leint16 f (x / 2) (by omega)
      omega
theorem pow_gtint16 {k : Nat} {m : Nat} (h : 2 ^ k ≤ m) (hm : m < 2305843009213693952) : k ≤ 60 := by
  rcases Nat.lt_or_ge 60 k with hk | hk
  · have h1 : 2 ^ 61 ≤ 2 ^ k := Nat.pow_le_pow_right (by decide) hk
    have h40 : (2 : Nat) ^ 61 = 2305843009213693952 := by decide
    omega
  · exact hk

theorem two_pow_ltint16 {k : Nat} (hk : k ≤ 60) : (2 : Int) ^ k ≤ 1152921504606846976 ∧ (1 : Int) ≤ 2 ^ k := by
  have h1 : 2 ^ k ≤ 2 ^ 60 := Nat.pow_le_pow_right (by decide) hk
  have h2 : 0 < 2 ^ k := Nat.pow_pos (by decide)
  have hc : ((2 : Int) ^ k) = ((2 ^ k : Nat) : Int) := by simp
  have h40 : (2 : Nat) ^ 60 = 1152921504606846976 := by decide
  rw [hc]; omega
theorem NoB_notint16 {x : Nat} : ¬ NoB x := fun h => h
theorem lenint16_ok (x : Nat) (hx : x < 1152921504606846976) (w : World) : CallsF Tryz.prog 50 #[.int .u64 x] w fun e w' => e = .returned (.int .i64 (Lib.bitLen x)) ∧ w' = w := by
  refine ⟨Tryz.call50, ?_⟩
  have := Tryz.bits_Len (x : Int) w (by omega) (by omega)
  rw [Int.toNat_natCast] at this
  exact this
theorem npowint16_ok (x : Nat) (hx : x < 1152921504606846976) (h0 : 0 < x) (w : World) :
    CallsF Tryz.prog 95 #[.int .i64 x] w fun e w' => ∃ k : Nat, k ≤ 60 ∧ 2 ^ k ≤ 2 * x ∧ e = .returned (.int .u64 (2 ^ k)) ∧ w' = w := by
  refine C_slices_nextPowerOfTwo _ _ _ ?_
  unfold S_slices_nextPowerOfTwo
  rw [wrap_u64 (by omega) (by omega)]
  refine (lenint16_ok x hx w).mono ?_
  rintro e w' ⟨rfl, rfl⟩
  have h1 : 2 ^ Lib.bitLen x ≤ 2 * x := bitLenAux_leint16 64 x h0
  have hk := pow_gtint16 h1 (by omega)
  refine ⟨_, rfl, by omega, Lib.bitLen x, hk, h1, ?_, rfl⟩
  have hp := two_pow_ltint16 hk
  unfold shlV
  rw [Int.toNat_natCast, Nat.min_eq_left (show Lib.bitLen x ≤ IntKind.u64.bits by simp [IntKind.bits]; omega), Int.one_mul, wrap_u64 (by omega) (by omega)]

theorem xorint16_ok {nb : Nat} {v : Int} {t0 : TypeId} (h : Blk w nb [.int .u64 v] t0) :
    CallsF Tryz.prog 96 #[.pointer (some ⟨nb, 0, none⟩)] w fun e w' => ∃ v' : Int, 0 ≤ v' ∧ v' ≤ 18446744073709551615 ∧ e = .returned (.int .u64 v') ∧ Blk w' nb [.int .u64 v'] t0 ∧ Mod (· = nb) w w' := by
  refine C_slices_xorshift_Next _ _ _ ?_
  have step : ∀ {w : World} {v : Int}, Blk w nb [.int .u64 v] t0 → w.cell? ⟨nb, 0, none⟩ = some (.int .u64 v) ∧ w.drew.cell? ⟨nb, 0, none⟩ = some (.int .u64 v) ∧ (∀ x, CanStore w.drew ⟨nb, 0, none⟩ 0 [.int .u64 x]) ∧
      ∀ x w1, SetC w.drew ⟨nb, 0, none⟩ [.int .u64 x] w1 → Blk w1 nb [.int .u64 x] t0 ∧ Mod (· = nb) w w1 := by
    intro w v h
    have hd := h.keep (drew_mod w) NoB_notint16
    refine ⟨by rw [h.cell]; rfl, by rw [hd.cell]; rfl, fun x => canStore_blk hd _ 0 rfl (by simp), fun x w1 hw1 => ⟨hw1.blk hd, (drew_mod w).to.then hw1.mod⟩⟩
  obtain ⟨_, a1, a2, a3⟩ := step h
  refine ⟨_, a1, _, a1, by omega, a2 _, fun w1 hw1 => ?_⟩
  obtain ⟨h1, hm1⟩ := a3 _ _ hw1
  obtain ⟨_, b1, b2, b3⟩ := step h1
  refine ⟨_, b1, _, b1, by omega, b2 _, fun w2 hw2 => ?_⟩
  obtain ⟨h2, hm2⟩ := b3 _ _ hw2
  obtain ⟨_, c1, c2, c3⟩ := step h2
  refine ⟨_, c1, _, c1, by omega, c2 _, fun w3 hw3 => ?_⟩
  obtain ⟨h3, hm3⟩ := c3 _ _ hw3
  refine ⟨_, (step h3).1, _, ?_, ?_, rfl, h3, (hm1.then hm2).then hm3⟩
  · exact (bitsV_range _ _ _).1
  · exact (bitsV_range _ _ _).2

theorem brkint16_ok (h : RowA .i16 w b d rest t) (hs : d.size = n) (hn : n < 1152921504606846976) {a e' : Nat} (hae : a ≤ e') (hen : e' ≤ n) :
    CallsF Tryz.prog 111 #[.slice (some ⟨b, 0, none⟩) n c, .int .i64 a, .int .i64 e'] w fun e w' => e = .returned (.tuple #[]) ∧ ∃ d', PermIn a e' d d' ∧ RowA .i16 w' b d' rest t ∧ Mod (· = b) w w' := by
  refine C_slices_breakPatternsOrdered_int16 _ _ _ _ _ _ _ ?_
  unfold S_slices_breakPatternsOrdered_int16
  have e0 : IntKind.i64.wrap ((e' : Int) - (a : Int)) = ((e' - a : Nat) : Int) := by rw [wrap_i64 (by omega) (by omega)]; omega
  rw [e0]
  intro J hJ
  refine Br_dec (fun h8 => ?_) fun h8 => hJ _ ⟨rfl, d, permIn_refl _ _ _, h, Mod.refl _ _⟩
  generalize hl : e' - a = l at h8
  intro w1 hw1
  have hb1 := hw1.blk 0 rfl
  have h1 := h.same hw1.mod
  have hbl : b < w.heap.size := Blk.lt h
  refine (npowint16_ok l (by omega) (by omega) w1).mono ?_
  rintro e w2 ⟨k, hk, hk2, rfl, rfl⟩
  have hq : IntKind.i64.wrap ((IntKind.i64.wrap (((l : Nat) : Int).tdiv 4)) * 2) = ((l / 4 * 2 : Nat) : Int) := by
    rw [Int.tdiv_eq_ediv_of_nonneg (by omega), wrap_i64 (n := ((l : Nat) : Int) / 4) (by omega) (by omega), wrap_i64 (by omega) (by omega)]; omega
  rw [hq]
  have hq2 : IntKind.i64.wrap ((a : Int) + ((l / 4 * 2 : Nat) : Int)) = ((a + l / 4 * 2 : Nat) : Int) := by rw [wrap_i64 (by omega) (by omega)]; omega
  rw [hq2]
  have hq3 : IntKind.i64.wrap (((a + l / 4 * 2 : Nat) : Int) - 1) = ((a + l / 4 * 2 - 1 : Nat) : Int) := by rw [wrap_i64 (by omega) (by omega)]; omega
  have hq4 : IntKind.i64.wrap (((a + l / 4 * 2 : Nat) : Int) + 1) = ((a + l / 4 * 2 + 1 : Nat) : Int) := by rw [wrap_i64 (by omega) (by omega)]; omega
  rw [hq3, hq4]
  refine ⟨_, rfl, by omega, fun m vs w' => ∃ (x : Nat) (v : Int) (d' : Array Int), m = a + l / 4 * 2 + 2 - x ∧ a + l / 4 * 2 - 1 ≤ x ∧ x ≤ a + l / 4 * 2 + 2 ∧ vs = [.int .i64 x] ∧ RowA .i16 w' b d' rest t ∧ PermIn a e' d d' ∧ Blk w' (w.heap.size + 0) [.int .u64 v] _ ∧ Mod (· = b) w w',
    ⟨_, _, _, d, rfl, Nat.le_refl _, by omega, rfl, h1, permIn_refl _ _ _, hb1, hw1.mod.to⟩, ?_⟩
  rintro m xx w3 ⟨x, v, d1, rfl, hx1, hx2, hvs, h3, hp, hb3, hm3⟩
  simp only [List.cons.injEq, Value.int.injEq, true_and, and_true] at hvs
  subst hvs
  refine ⟨by omega, Br_dec (fun hle => ?_) fun hgt => hJ _ ⟨rfl, d1, hp, h3, hm3⟩⟩
  refine (xorint16_ok hb3).mono ?_
  rintro e w4 ⟨v', hv0, hv1, rfl, hb4, hm4⟩
  have h4 : RowA .i16 w4 b d1 rest t := Blk.keep h3 hm4 (show ¬ b = w.heap.size + 0 by omega)
  refine ⟨_, rfl, ?_⟩
  have hs1 : d1.size = n := by rw [hp.1]; exact hs
  have hpk := two_pow_ltint16 hk
  have hpi : (2 : Int) ^ k = ((2 ^ k : Nat) : Int) := by simp
  have e5 : IntKind.u64.wrap ((2 : Int) ^ k - 1) = (2 : Int) ^ k - 1 := wrap_u64 (by omega) (by omega)
  rw [e5, and_mask hv0 hv1 (by omega)]
  have hmod0 : 0 ≤ v' % 2 ^ k := Int.emod_nonneg _ (by omega)
  have hmod1 : v' % 2 ^ k < 2 ^ k := Int.emod_lt_of_pos _ (by omega)
  obtain ⟨o, ho⟩ := Int.eq_ofNat_of_zero_le hmod0
  rw [ho] at hmod1 ⊢
  rw [hpi] at hmod1
  have hol : o < 2 * l := by omega
  rw [wrap_i64 (n := (o : Int)) (by omega) (by omega)]
  intro J' hJ'
  have hgo : ∀ q : Nat, q < l → J' [.int .i64 q] w4 := by
    intro q hq
    refine hJ' _ _ ?_
    have eq : IntKind.i64.wrap ((a : Int) + (q : Int)) = ((a + q : Nat) : Int) := by rw [wrap_i64 (by omega) (by omega)]; omega
    rw [eq]
    refine swap_step h4 (i := x) (j := a + q) rfl rfl (by omega) (by omega) (Nat.le_of_eq hs1) fun w5 h5 hm5 => ?_
    refine ⟨a + l / 4 * 2 + 2 - (x + 1), by omega, x + 1, v', _, rfl, by omega, by omega, by rw [wrap_i64 (by omega) (by omega)]; rfl, h5, ?_, ?_, ?_⟩
    · exact permIn_trans _ _ _ a e' hp (swp_permIn _ _ _ _ _ (by omega) (by omega) (by omega) (by omega) (by omega))
    · exact hb4.keep hm5 (show ¬ w.heap.size + 0 = b by omega)
    · exact (hm3.new _ hm4 fun x hx e => by omega).then hm5
  refine Br_dec (fun hge => ?_) fun hlt => hgo o (by omega)
  have : IntKind.i64.wrap ((o : Int) - (l : Int)) = ((o - l : Nat) : Int) := by rw [wrap_i64 (by omega) (by omega)]; omega
  rw [this]
  exact hgo (o - l) (by omega)

end Go.Proofs.YtajfdcbknghipaaGreatDoor
end
