/-
  DERIVED: THE SHELF's CONTRACTS AT THIS DUMP, IN PLAIN WORDS (tools/lay-plain.mjs out of 'YtbihoedcbmnccaaGreatDoorShelf.lean', which tools/lay-shelf.mjs wrote): THE SAME DECLARATIONS UNDER THE SAME NAMES: 'import', 'namespace', 'open', 'def', 'theorem' AND NOTHING ELSE: no command of the shelf's: FOR A HAND-IN. Each laying: the table of numbers ('.._ren') and one theorem, a field a fact of the dump's own or the kernel's comparison; each contract: ONE APPLICATION.
-/
import Derived.Shelf.Strings.Builder1
import Derived.Shelf.Strings.Builder2
import Derived.Shelf.Small.Bits
import Derived.Shelf.Strings.BuilderF
import Derived.Shelf.Strconv.Atoi
import Derived.Shelf.Strconv.Itoa0
import Derived.Shelf.Strconv.Itoa1
import Derived.Shelf.LaysM
import Derived.Shelf.Strconv.Itoa2
import Derived.Shelf.Strconv.Itoa3
import Derived.Shelf.Strconv.AtoiErrFast
import Derived.Shelf.Strconv.ParseIntEmpty
import Derived.Shelf.Strconv.AtoiFail
import Derived.Shelf.Strconv.Clone
import Derived.Shelf.Strconv.SyntaxError
import Derived.Shelf.LaysC
import Derived.Shelf.Strconv.ToError
import Derived.Shelf.Strconv.Lower
import Derived.Shelf.Strconv.ParseUint10
import Derived.Shelf.Strconv.ParseUint10Empty
import Derived.Shelf.Strconv.ParseUint10Any
import Derived.Shelf.Strconv.ParseInt10
import Derived.Shelf.Strconv.AtoiLong
import Derived.Shelf.Strconv.AtoiInnerAll
import Derived.Shelf.Strconv.RangeError
import Derived.Shelf.Strconv.ToErrorRange
import Derived.Shelf.Strconv.AtoiAll
import Derived.Shelf.Strconv.ErrVarAll
import Derived.Shelf.Strconv.ParseUintEmpty
import Derived.Shelf.Strconv.ParseUint10b64
import Derived.Shelf.Strconv.ParseUint10b32
import Derived.Shelf.Strconv.ParseUint10b16
import Derived.Shelf.Strconv.ParseUint10b8
import Derived.Shelf.Strconv.ParseUint10At
import Derived.Shelf.Strconv.ParseInt10At64
import Derived.Shelf.Strconv.ParseInt10At32
import Derived.Shelf.Strconv.ParseInt10At16
import Derived.Shelf.Strconv.ParseInt10At8
import Derived.Shelf.Strconv.ParseInt10All
import Derived.Shelf.Strconv.ParseIntPublic10
import Derived.Shelf.Strconv.ErrVarParseInt
import Derived.Ground.MpProg
import Derived.Shelf.Pu.ParseUintPublic10
import Derived.Shelf.Pu.ErrVarParseUint
import Derived.Shelf.Strings.Prefix
import Derived.Shelf.Bits.Mul64
import Derived.Shelf.Strings.Repeat
import Derived.Test.YtbihoedcbmnccaaGreatDoorProg
import Derived.Lib.ItoaNum
import Derived.Lib.AtoiAll
import Derived.Lib.Atoi
import Derived.Lib.ParseIntB
namespace Go.Proofs
open Go.Shelf
def Tryz.lays128_ren : Go.Shelf.Ren := ⟨fun | 128 => 160 | n => n, fun | 51 => 198 | 3 => 3 | 4 => 4 | 46 => 147 | 5 => 5 | 9 => 9 | n => n, fun | n => n⟩
theorem Tryz.lays128 : Go.Proofs.Lays.n128 Tryz.prog Tryz.lays128_ren := {
  mixed := by kernel_rfl
  f128 := Tryz.func160.trans (congrArg some (by kernel_rfl))
  t3 := Tryz.underlying3
  a3 := Tryz.isAgg3
  z3 := Tryz.sizeOf3
  v3 := Tryz.zeroValue3
  t4 := Tryz.underlying4
  a4 := Tryz.isAgg4
  z4 := Tryz.sizeOf4
  v4 := Tryz.zeroValue4
  t5 := Tryz.underlying5
  a5 := Tryz.isAgg5
  z5 := Tryz.sizeOf5
  v5 := Tryz.zeroValue5
  t9 := Tryz.underlying9
  a9 := Tryz.isAgg9
  z9 := Tryz.sizeOf9
  v9 := Tryz.zeroValue9
  t46 := Tryz.underlying147
  a46 := Tryz.isAgg147
  z46 := Tryz.sizeOf147
  v46 := Tryz.zeroValue147
  t51 := Tryz.underlying198
  a51 := Tryz.isAgg198
  z51 := Tryz.sizeOf198
  v51 := Tryz.zeroValue198 }
/-- bits.Len32: "Len32 returns the minimum number of bits required to represent x; the result is 0 for x == 0.": IT RETURNS 'Lib.bitLen x'; the world is as it was. ('h0', 'h1': x is a uint32.) (LAID: no walk: one application.) -/
theorem Tryz.bits_Len32 (x : Int) (w : World) (h0 : 0 ≤ x) (h1 : x ≤ 4294967295) :
    Calls Tryz.prog 160 #[.int .u32 x] w fun e w' => e = .returned (.int .i64 (Lib.bitLen x.toNat)) ∧ w' = w := Any.bits_Len32 Tryz.lays128 x w h0 h1
def Tryz.lays125_ren : Go.Shelf.Ren := ⟨fun | 125 => 110 | 128 => 160 | 129 => 153 | n => n, fun | 46 => 147 | 3 => 3 | 51 => 198 | 53 => 151 | 4 => 4 | 5 => 5 | 9 => 9 | n => n, fun | n => n⟩
theorem Tryz.lays125 : Go.Proofs.Lays.n125 Tryz.prog Tryz.lays125_ren := {
  mixed := by kernel_rfl
  f125 := Tryz.func110.trans (congrArg some (by kernel_rfl))
  f128 := Tryz.func160.trans (congrArg some (by kernel_rfl))
  f129 := Tryz.func153.trans (congrArg some (by kernel_rfl))
  t3 := Tryz.underlying3
  a3 := Tryz.isAgg3
  z3 := Tryz.sizeOf3
  v3 := Tryz.zeroValue3
  t4 := Tryz.underlying4
  a4 := Tryz.isAgg4
  z4 := Tryz.sizeOf4
  v4 := Tryz.zeroValue4
  t5 := Tryz.underlying5
  a5 := Tryz.isAgg5
  z5 := Tryz.sizeOf5
  v5 := Tryz.zeroValue5
  t9 := Tryz.underlying9
  a9 := Tryz.isAgg9
  z9 := Tryz.sizeOf9
  v9 := Tryz.zeroValue9
  t46 := Tryz.underlying147
  a46 := Tryz.isAgg147
  z46 := Tryz.sizeOf147
  v46 := Tryz.zeroValue147
  t51 := Tryz.underlying198
  a51 := Tryz.isAgg198
  z51 := Tryz.sizeOf198
  v51 := Tryz.zeroValue198
  t53 := Tryz.underlying151
  a53 := Tryz.isAgg151
  z53 := Tryz.sizeOf151
  v53 := Tryz.zeroValue151 }
/-- bits.Len: "Len returns the minimum number of bits required to represent x; the result is 0 for x == 0.": IT RETURNS 'Lib.bitLen x'; the world is as it was. (A uint has 64 bits in the model.) ITS CALLEE bits.Len64 IS MET BY ITS OWN CONTRACT OFF THE SHELF (lay that first). (LAID: no walk: one application.) -/
theorem Tryz.bits_Len (x : Int) (w : World) (h0 : 0 ≤ x) (h1 : x ≤ 18446744073709551615) :
    Calls Tryz.prog 110 #[.int .u64 x] w fun e w' => e = .returned (.int .i64 (Lib.bitLen x.toNat)) ∧ w' = w := Any.bits_Len Tryz.lays125 x w h0 h1
def Tryz.lays129_ren : Go.Shelf.Ren := ⟨fun | 129 => 153 | n => n, fun | 53 => 151 | 3 => 3 | 4 => 4 | 46 => 147 | 5 => 5 | 9 => 9 | n => n, fun | n => n⟩
theorem Tryz.lays129 : Go.Proofs.Lays.n129 Tryz.prog Tryz.lays129_ren := {
  mixed := by kernel_rfl
  f129 := Tryz.func153.trans (congrArg some (by kernel_rfl))
  t3 := Tryz.underlying3
  a3 := Tryz.isAgg3
  z3 := Tryz.sizeOf3
  v3 := Tryz.zeroValue3
  t4 := Tryz.underlying4
  a4 := Tryz.isAgg4
  z4 := Tryz.sizeOf4
  v4 := Tryz.zeroValue4
  t5 := Tryz.underlying5
  a5 := Tryz.isAgg5
  z5 := Tryz.sizeOf5
  v5 := Tryz.zeroValue5
  t9 := Tryz.underlying9
  a9 := Tryz.isAgg9
  z9 := Tryz.sizeOf9
  v9 := Tryz.zeroValue9
  t46 := Tryz.underlying147
  a46 := Tryz.isAgg147
  z46 := Tryz.sizeOf147
  v46 := Tryz.zeroValue147
  t53 := Tryz.underlying151
  a53 := Tryz.isAgg151
  z53 := Tryz.sizeOf151
  v53 := Tryz.zeroValue151 }
/-- bits.Len64: "Len64 returns the minimum number of bits required to represent x; the result is 0 for x == 0.": IT RETURNS 'Lib.bitLen x'; the world is as it was. ('h0', 'h1': x is a uint64.) (LAID: no walk: one application.) -/
theorem Tryz.bits_Len64 (x : Int) (w : World) (h0 : 0 ≤ x) (h1 : x ≤ 18446744073709551615) :
    Calls Tryz.prog 153 #[.int .u64 x] w fun e w' => e = .returned (.int .i64 (Lib.bitLen x.toNat)) ∧ w' = w := Any.bits_Len64 Tryz.lays129 x w h0 h1
def Tryz.lays283_ren : Go.Shelf.Ren := ⟨fun | 283 => 215 | n => n, fun | 3 => 3 | 9 => 9 | 4 => 4 | n => n, fun | n => n⟩
theorem Tryz.lays283 : Go.Proofs.Lays.n283 Tryz.prog Tryz.lays283_ren := {
  mixed := by kernel_rfl
  f283 := Tryz.func215.trans (congrArg some (by kernel_rfl))
  t3 := Tryz.underlying3
  a3 := Tryz.isAgg3
  z3 := Tryz.sizeOf3
  v3 := Tryz.zeroValue3
  t4 := Tryz.underlying4
  a4 := Tryz.isAgg4
  z4 := Tryz.sizeOf4
  v4 := Tryz.zeroValue4
  t9 := Tryz.underlying9
  a9 := Tryz.isAgg9
  z9 := Tryz.sizeOf9
  v9 := Tryz.zeroValue9 }
open Go.Lib in
/-- internal/strconv.small: "small returns the string for an i with 0 <= i < nSmalls.": i's decimal numeral. The world is as it was. (LAID: no walk: one application.) -/
theorem Tryz.internal_strconv_small (i : Nat) (h : i < 100) (w : World) :
    Calls Tryz.prog 215 #[.int .i64 i] w fun e w' => e = .returned (.string ⟨(Lib.decDigits i).toArray⟩) ∧ w' = w := Any.internal_strconv_small Tryz.lays283 i h w
def Tryz.laysM284_ren : Go.Shelf.Ren := ⟨fun | 284 => 216 | 129 => 153 | 317 => 223 | 318 => 224 | n => n, fun | 53 => 151 | 3 => 3 | 212 => 267 | 0 => 0 | 4 => 4 | 46 => 147 | 5 => 5 | 9 => 9 | n => n, fun | 17 => 3 | n => n⟩
theorem Tryz.laysM284 : Go.Proofs.LaysM.n284 Tryz.prog Tryz.laysM284_ren := {
  mixed := by kernel_rfl
  f129 := Tryz.func153.trans (congrArg some (by kernel_rfl))
  f284 := Tryz.func216.trans (congrArg some (by kernel_rfl))
  f317 := Tryz.func223.trans (congrArg some (by kernel_rfl))
  f318 := Tryz.func224.trans (congrArg some (by kernel_rfl))
  t0 := Tryz.underlying0
  a0 := Tryz.isAgg0
  z0 := Tryz.sizeOf0
  v0 := Tryz.zeroValue0
  t3 := Tryz.underlying3
  a3 := Tryz.isAgg3
  z3 := Tryz.sizeOf3
  v3 := Tryz.zeroValue3
  t4 := Tryz.underlying4
  a4 := Tryz.isAgg4
  z4 := Tryz.sizeOf4
  v4 := Tryz.zeroValue4
  t5 := Tryz.underlying5
  a5 := Tryz.isAgg5
  z5 := Tryz.sizeOf5
  v5 := Tryz.zeroValue5
  t9 := Tryz.underlying9
  a9 := Tryz.isAgg9
  z9 := Tryz.sizeOf9
  v9 := Tryz.zeroValue9
  t46 := Tryz.underlying147
  a46 := Tryz.isAgg147
  z46 := Tryz.sizeOf147
  v46 := Tryz.zeroValue147
  t53 := Tryz.underlying151
  a53 := Tryz.isAgg151
  z53 := Tryz.sizeOf151
  v53 := Tryz.zeroValue151
  t212 := Tryz.underlying267
  a212 := Tryz.isAgg267
  z212 := Tryz.sizeOf267
  v212 := Tryz.zeroValue267
  g17 := by kernel_rfl
  i0 := by kernel_rfl
  i3 := by kernel_rfl
  i4 := by kernel_rfl
  i5 := by kernel_rfl
  i9 := by kernel_rfl
  i46 := by kernel_rfl
  i53 := by kernel_rfl
  i212 := by kernel_rfl
  m17 := by kernel_rfl }
open Go.Lib in
/-- internal/strconv.numDigits, at a d that is not 0: THE NUMBER OF d's DECIMAL DIGITS. The world is as it was. (LAID: no walk: one application.) -/
theorem Tryz.internal_strconv_numDigits (u : Nat) (h1 : 1 ≤ u) (h2 : u < 18446744073709551616) (w : World) (htab : Lib.TabIs Tryz.prog w "internal/strconv.uint64pow10" .u64 Lib.pow10Tab) :
    Calls Tryz.prog 216 #[.int .u64 u] w fun e w' => e = .returned (.int .i64 (Lib.nDigits u)) ∧ w' = w := Any.internal_strconv_numDigits Tryz.laysM284 u h1 h2 w htab
def Tryz.lays285_ren : Go.Shelf.Ren := ⟨fun | 285 => 217 | n => n, fun | 37 => 176 | 53 => 151 | 3 => 3 | 4 => 4 | 51 => 198 | 9 => 9 | 5 => 5 | 0 => 0 | n => n, fun | n => n⟩
theorem Tryz.lays285 : Go.Proofs.Lays.n285 Tryz.prog Tryz.lays285_ren := {
  mixed := by kernel_rfl
  f285 := Tryz.func217.trans (congrArg some (by kernel_rfl))
  t0 := Tryz.underlying0
  a0 := Tryz.isAgg0
  z0 := Tryz.sizeOf0
  v0 := Tryz.zeroValue0
  t3 := Tryz.underlying3
  a3 := Tryz.isAgg3
  z3 := Tryz.sizeOf3
  v3 := Tryz.zeroValue3
  t4 := Tryz.underlying4
  a4 := Tryz.isAgg4
  z4 := Tryz.sizeOf4
  v4 := Tryz.zeroValue4
  t5 := Tryz.underlying5
  a5 := Tryz.isAgg5
  z5 := Tryz.sizeOf5
  v5 := Tryz.zeroValue5
  t9 := Tryz.underlying9
  a9 := Tryz.isAgg9
  z9 := Tryz.sizeOf9
  v9 := Tryz.zeroValue9
  t37 := Tryz.underlying176
  a37 := Tryz.isAgg176
  z37 := Tryz.sizeOf176
  v37 := Tryz.zeroValue176
  t51 := Tryz.underlying198
  a51 := Tryz.isAgg198
  z51 := Tryz.sizeOf198
  v51 := Tryz.zeroValue198
  t53 := Tryz.underlying151
  a53 := Tryz.isAgg151
  z53 := Tryz.sizeOf151
  v53 := Tryz.zeroValue151 }
open Go.RowKit Go.Sort Go.Lib in
/-- internal/strconv.formatBase10: "formatBase10 formats the decimal representation of u into a. The caller is responsible for ensuring that a is big enough to hold u. If a is too big, leading zeros will be filled in as needed.": THE ROW HOLDS u's DIGITS ('FmtInv .. 0 ..': every place t holds 'dg u (len - 1 - t)'); all else is as it was but for the count of draws. (LAID: no walk: one application.) -/
theorem Tryz.internal_strconv_formatBase10 (blk off cap : Nat) (u : Nat) (d : Array UInt8) (w : World) (hH : Holds (fun (b : UInt8) => Value.int .u8 (b.toNat : Int)) w blk off d) (hu : u < 10 ^ d.size) (hu64 : u < 18446744073709551616) (hsz : d.size < 4611686018427387904) :
    Calls Tryz.prog 217 #[.slice (some ⟨blk, off, none⟩) d.size cap, .int .u64 u] w fun e w' =>
      e = .returned (.tuple #[]) ∧ ∃ (n v' : Nat) (dk : Array UInt8), w' = (putRow (fun (b : UInt8) => Value.int .u8 (b.toNat : Int)) w blk off dk).drewN n ∧ FmtInv d.size u 0 v' dk := Any.internal_strconv_formatBase10 Tryz.lays285 blk off cap u d w hH hu hu64 hsz
def Tryz.laysM171_ren : Go.Shelf.Ren := ⟨fun | 171 => 116 | 243 => 166 | 246 => 198 | 283 => 215 | 284 => 216 | 285 => 217 | 286 => 218 | 129 => 153 | 317 => 223 | 318 => 224 | 319 => 225 | 320 => 226 | 337 => 227 | 338 => 228 | n => n, fun | 3 => 3 | 9 => 9 | 2 => 2 | 4 => 4 | 171 => 255 | 0 => 0 | 53 => 151 | 37 => 176 | 5 => 5 | 173 => 257 | 212 => 267 | 51 => 198 | 20 => 20 | 213 => 268 | 46 => 147 | 232 => 269 | 233 => 270 | n => n, fun | 17 => 3 | 18 => 4 | 19 => 5 | n => n⟩
theorem Tryz.laysM171 : Go.Proofs.LaysM.n171 Tryz.prog Tryz.laysM171_ren := {
  mixed := by kernel_rfl
  f129 := Tryz.func153.trans (congrArg some (by kernel_rfl))
  f171 := Tryz.func116.trans (congrArg some (by kernel_rfl))
  f243 := Tryz.func166.trans (congrArg some (by kernel_rfl))
  f246 := Tryz.func198.trans (congrArg some (by kernel_rfl))
  f283 := Tryz.func215.trans (congrArg some (by kernel_rfl))
  f284 := Tryz.func216.trans (congrArg some (by kernel_rfl))
  f285 := Tryz.func217.trans (congrArg some (by kernel_rfl))
  f286 := Tryz.func218.trans (congrArg some (by kernel_rfl))
  f317 := Tryz.func223.trans (congrArg some (by kernel_rfl))
  f318 := Tryz.func224.trans (congrArg some (by kernel_rfl))
  f319 := Tryz.func225.trans (congrArg some (by kernel_rfl))
  f320 := Tryz.func226.trans (congrArg some (by kernel_rfl))
  f337 := Tryz.func227.trans (congrArg some (by kernel_rfl))
  f338 := Tryz.func228.trans (congrArg some (by kernel_rfl))
  t0 := Tryz.underlying0
  a0 := Tryz.isAgg0
  z0 := Tryz.sizeOf0
  v0 := Tryz.zeroValue0
  t2 := Tryz.underlying2
  a2 := Tryz.isAgg2
  z2 := Tryz.sizeOf2
  v2 := Tryz.zeroValue2
  t3 := Tryz.underlying3
  a3 := Tryz.isAgg3
  z3 := Tryz.sizeOf3
  v3 := Tryz.zeroValue3
  t4 := Tryz.underlying4
  a4 := Tryz.isAgg4
  z4 := Tryz.sizeOf4
  v4 := Tryz.zeroValue4
  t5 := Tryz.underlying5
  a5 := Tryz.isAgg5
  z5 := Tryz.sizeOf5
  v5 := Tryz.zeroValue5
  t9 := Tryz.underlying9
  a9 := Tryz.isAgg9
  z9 := Tryz.sizeOf9
  v9 := Tryz.zeroValue9
  t20 := Tryz.underlying20
  a20 := Tryz.isAgg20
  z20 := Tryz.sizeOf20
  v20 := Tryz.zeroValue20
  t37 := Tryz.underlying176
  a37 := Tryz.isAgg176
  z37 := Tryz.sizeOf176
  v37 := Tryz.zeroValue176
  t46 := Tryz.underlying147
  a46 := Tryz.isAgg147
  z46 := Tryz.sizeOf147
  v46 := Tryz.zeroValue147
  t51 := Tryz.underlying198
  a51 := Tryz.isAgg198
  z51 := Tryz.sizeOf198
  v51 := Tryz.zeroValue198
  t53 := Tryz.underlying151
  a53 := Tryz.isAgg151
  z53 := Tryz.sizeOf151
  v53 := Tryz.zeroValue151
  t171 := Tryz.underlying255
  a171 := Tryz.isAgg255
  z171 := Tryz.sizeOf255
  v171 := Tryz.zeroValue255
  t173 := Tryz.underlying257
  a173 := Tryz.isAgg257
  z173 := Tryz.sizeOf257
  v173 := Tryz.zeroValue257
  t212 := Tryz.underlying267
  a212 := Tryz.isAgg267
  z212 := Tryz.sizeOf267
  v212 := Tryz.zeroValue267
  t213 := Tryz.underlying268
  a213 := Tryz.isAgg268
  z213 := Tryz.sizeOf268
  t232 := Tryz.underlying269
  a232 := Tryz.isAgg269
  z232 := Tryz.sizeOf269
  v232 := Tryz.zeroValue269
  t233 := Tryz.underlying270
  a233 := Tryz.isAgg270
  z233 := Tryz.sizeOf270
  v233 := Tryz.zeroValue270
  g17 := by kernel_rfl
  g18 := by kernel_rfl
  g19 := by kernel_rfl
  i0 := by kernel_rfl
  i2 := by kernel_rfl
  i3 := by kernel_rfl
  i4 := by kernel_rfl
  i5 := by kernel_rfl
  i9 := by kernel_rfl
  i20 := by kernel_rfl
  i37 := by kernel_rfl
  i46 := by kernel_rfl
  i51 := by kernel_rfl
  i53 := by kernel_rfl
  i171 := by kernel_rfl
  i173 := by kernel_rfl
  i212 := by kernel_rfl
  i232 := by kernel_rfl
  i233 := by kernel_rfl
  m17 := by kernel_rfl
  m18 := by kernel_rfl
  m19 := by kernel_rfl }
open Go.RowKit Go.Sort Go.Lib in
/-- strconv.Itoa: "Itoa is equivalent to FormatInt(int64(i), 10).": i's DECIMAL NUMERAL ('Lib.itoa': a '-' where i is negative, then the digits), FOR EVERY int. The world behind the call: the world before it, new blocks behind the heap (the library's 'var a [24]byte'), draws. (LAID: no walk: one application.) -/
theorem Tryz.strconv_Itoa (n : Int) (h0 : -9223372036854775808 ≤ n) (h1 : n ≤ 9223372036854775807) (w : World) (htab : Lib.TabIs Tryz.prog w "internal/strconv.uint64pow10" .u64 Lib.pow10Tab) :
    Calls Tryz.prog 116 #[.int .i64 n] w fun e w' => e = .returned (.string ⟨(Lib.itoa n).toArray⟩) ∧ ∃ k os, w' = grow (w.drewN k) os := Any.strconv_Itoa Tryz.laysM171 n h0 h1 w htab
def Tryz.laysC172_ren : Go.Shelf.Ren := ⟨fun | 172 => 115 | 244 => 164 | 245 => 165 | 247 => 193 | 279 => 194 | 280 => 195 | 281 => 196 | 282 => 197 | 287 => 205 | 316 => 213 | 171 => 116 | 205 => 214 | 321 => 220 | 322 => 221 | 243 => 166 | 246 => 198 | 283 => 215 | 284 => 216 | 285 => 217 | 286 => 218 | 129 => 153 | 317 => 223 | 318 => 224 | 319 => 225 | 320 => 226 | 337 => 227 | 338 => 228 | n => n, fun | 9 => 9 | 3 => 3 | 75 => 158 | 76 => 159 | 4 => 4 | 5 => 5 | 167 => 230 | 37 => 176 | 0 => 0 | 85 => 231 | 2 => 2 | 168 => 233 | 53 => 151 | 175 => 215 | 46 => 147 | 210 => 253 | 127 => 210 | 145 => 264 | 143 => 262 | 21 => 21 | 171 => 255 | 173 => 257 | 212 => 267 | 51 => 198 | 20 => 20 | 213 => 268 | 232 => 269 | 233 => 270 | 80 => 180 | n => n, fun | 15 => 0 | 16 => 1 | 17 => 3 | 18 => 4 | 19 => 5 | n => n⟩
theorem Tryz.laysC172 : Go.Proofs.LaysC.n172 Tryz.prog Tryz.laysC172_ren := {
  mixed := by kernel_rfl
  f129 := Tryz.func153.trans (congrArg some (by kernel_rfl))
  f171 := Tryz.func116.trans (congrArg some (by kernel_rfl))
  f172 := Tryz.func115.trans (congrArg some (by kernel_rfl))
  f205 := Tryz.func214.trans (congrArg some (by kernel_rfl))
  f243 := Tryz.func166.trans (congrArg some (by kernel_rfl))
  f244 := Tryz.func164.trans (congrArg some (by kernel_rfl))
  f245 := Tryz.func165.trans (congrArg some (by kernel_rfl))
  f246 := Tryz.func198.trans (congrArg some (by kernel_rfl))
  f247 := Tryz.func193.trans (congrArg some (by kernel_rfl))
  f279 := Tryz.func194.trans (congrArg some (by kernel_rfl))
  f280 := Tryz.func195.trans (congrArg some (by kernel_rfl))
  f281 := Tryz.func196.trans (congrArg some (by kernel_rfl))
  f282 := Tryz.func197.trans (congrArg some (by kernel_rfl))
  f283 := Tryz.func215.trans (congrArg some (by kernel_rfl))
  f284 := Tryz.func216.trans (congrArg some (by kernel_rfl))
  f285 := Tryz.func217.trans (congrArg some (by kernel_rfl))
  f286 := Tryz.func218.trans (congrArg some (by kernel_rfl))
  f287 := Tryz.func205.trans (congrArg some (by kernel_rfl))
  f316 := Tryz.func213.trans (congrArg some (by kernel_rfl))
  f317 := Tryz.func223.trans (congrArg some (by kernel_rfl))
  f318 := Tryz.func224.trans (congrArg some (by kernel_rfl))
  f319 := Tryz.func225.trans (congrArg some (by kernel_rfl))
  f320 := Tryz.func226.trans (congrArg some (by kernel_rfl))
  f321 := Tryz.func220.trans (congrArg some (by kernel_rfl))
  f322 := Tryz.func221.trans (congrArg some (by kernel_rfl))
  f337 := Tryz.func227.trans (congrArg some (by kernel_rfl))
  f338 := Tryz.func228.trans (congrArg some (by kernel_rfl))
  t0 := Tryz.underlying0
  a0 := Tryz.isAgg0
  z0 := Tryz.sizeOf0
  v0 := Tryz.zeroValue0
  t2 := Tryz.underlying2
  a2 := Tryz.isAgg2
  z2 := Tryz.sizeOf2
  v2 := Tryz.zeroValue2
  t3 := Tryz.underlying3
  a3 := Tryz.isAgg3
  z3 := Tryz.sizeOf3
  v3 := Tryz.zeroValue3
  t4 := Tryz.underlying4
  a4 := Tryz.isAgg4
  z4 := Tryz.sizeOf4
  v4 := Tryz.zeroValue4
  t5 := Tryz.underlying5
  a5 := Tryz.isAgg5
  z5 := Tryz.sizeOf5
  v5 := Tryz.zeroValue5
  t9 := Tryz.underlying9
  a9 := Tryz.isAgg9
  z9 := Tryz.sizeOf9
  v9 := Tryz.zeroValue9
  t20 := Tryz.underlying20
  a20 := Tryz.isAgg20
  z20 := Tryz.sizeOf20
  v20 := Tryz.zeroValue20
  t21 := Tryz.underlying21
  a21 := Tryz.isAgg21
  z21 := Tryz.sizeOf21
  v21 := Tryz.zeroValue21
  t37 := Tryz.underlying176
  a37 := Tryz.isAgg176
  z37 := Tryz.sizeOf176
  v37 := Tryz.zeroValue176
  t46 := Tryz.underlying147
  a46 := Tryz.isAgg147
  z46 := Tryz.sizeOf147
  v46 := Tryz.zeroValue147
  t51 := Tryz.underlying198
  a51 := Tryz.isAgg198
  z51 := Tryz.sizeOf198
  v51 := Tryz.zeroValue198
  t53 := Tryz.underlying151
  a53 := Tryz.isAgg151
  z53 := Tryz.sizeOf151
  v53 := Tryz.zeroValue151
  t75 := Tryz.underlying158
  a75 := Tryz.isAgg158
  z75 := Tryz.sizeOf158
  v75 := Tryz.zeroValue158
  t76 := Tryz.underlying159
  a76 := Tryz.isAgg159
  z76 := Tryz.sizeOf159
  v76 := Tryz.zeroValue159
  t85 := Tryz.underlying231
  a85 := Tryz.isAgg231
  z85 := Tryz.sizeOf231
  v85 := Tryz.zeroValue231
  t127 := Tryz.underlying210
  a127 := Tryz.isAgg210
  z127 := Tryz.sizeOf210
  v127 := Tryz.zeroValue210
  t143 := Tryz.underlying262
  a143 := Tryz.isAgg262
  z143 := Tryz.sizeOf262
  v143 := Tryz.zeroValue262
  t145 := Tryz.underlying264
  a145 := Tryz.isAgg264
  z145 := Tryz.sizeOf264
  v145 := Tryz.zeroValue264
  t167 := Tryz.underlying230
  a167 := Tryz.isAgg230
  z167 := Tryz.sizeOf230
  v167 := Tryz.zeroValue230
  t168 := Tryz.underlying233
  a168 := Tryz.isAgg233
  z168 := Tryz.sizeOf233
  v168 := Tryz.zeroValue233
  t171 := Tryz.underlying255
  a171 := Tryz.isAgg255
  z171 := Tryz.sizeOf255
  v171 := Tryz.zeroValue255
  t173 := Tryz.underlying257
  a173 := Tryz.isAgg257
  z173 := Tryz.sizeOf257
  v173 := Tryz.zeroValue257
  t175 := Tryz.underlying215
  a175 := Tryz.isAgg215
  z175 := Tryz.sizeOf215
  v175 := Tryz.zeroValue215
  t210 := Tryz.underlying253
  a210 := Tryz.isAgg253
  z210 := Tryz.sizeOf253
  v210 := Tryz.zeroValue253
  t212 := Tryz.underlying267
  a212 := Tryz.isAgg267
  z212 := Tryz.sizeOf267
  v212 := Tryz.zeroValue267
  t213 := Tryz.underlying268
  a213 := Tryz.isAgg268
  z213 := Tryz.sizeOf268
  t232 := Tryz.underlying269
  a232 := Tryz.isAgg269
  z232 := Tryz.sizeOf269
  v232 := Tryz.zeroValue269
  t233 := Tryz.underlying270
  a233 := Tryz.isAgg270
  z233 := Tryz.sizeOf270
  v233 := Tryz.zeroValue270
  g15 := by kernel_rfl
  g16 := by kernel_rfl
  g17 := by kernel_rfl
  g18 := by kernel_rfl
  g19 := by kernel_rfl
  t80 := Tryz.underlying180
  a80 := Tryz.isAgg180
  z80 := Tryz.sizeOf180
  v80 := Tryz.zeroValue180
  i0 := by kernel_rfl
  i2 := by kernel_rfl
  i3 := by kernel_rfl
  i4 := by kernel_rfl
  i5 := by kernel_rfl
  i9 := by kernel_rfl
  i20 := by kernel_rfl
  i21 := by kernel_rfl
  i37 := by kernel_rfl
  i46 := by kernel_rfl
  i51 := by kernel_rfl
  i53 := by kernel_rfl
  i75 := by kernel_rfl
  i76 := by kernel_rfl
  i80 := by kernel_rfl
  i85 := by kernel_rfl
  i127 := by kernel_rfl
  i143 := by kernel_rfl
  i145 := by kernel_rfl
  i167 := by kernel_rfl
  i168 := by kernel_rfl
  i171 := by kernel_rfl
  i173 := by kernel_rfl
  i175 := by kernel_rfl
  i210 := by kernel_rfl
  i212 := by kernel_rfl
  i232 := by kernel_rfl
  i233 := by kernel_rfl
  m15 := by kernel_rfl
  m16 := by kernel_rfl
  m17 := by kernel_rfl
  m18 := by kernel_rfl
  m19 := by kernel_rfl
  c0 := by kernel_rfl
  c2 := by kernel_rfl
  c3 := by kernel_rfl
  c4 := by kernel_rfl
  c5 := by kernel_rfl
  c9 := by kernel_rfl
  c20 := by kernel_rfl
  c21 := by kernel_rfl
  c37 := by kernel_rfl
  c46 := by kernel_rfl
  c51 := by kernel_rfl
  c53 := by kernel_rfl
  c75 := by kernel_rfl
  c76 := by kernel_rfl
  c80 := by kernel_rfl
  c85 := by kernel_rfl
  c127 := by kernel_rfl
  c143 := by kernel_rfl
  c145 := by kernel_rfl
  c167 := by kernel_rfl
  c168 := by kernel_rfl
  c171 := by kernel_rfl
  c173 := by kernel_rfl
  c175 := by kernel_rfl
  c210 := by kernel_rfl
  c212 := by kernel_rfl
  c213 := by kernel_rfl
  c232 := by kernel_rfl
  c233 := by kernel_rfl }
open Go.RowKit in
/-- strconv.Atoi, AT EVERY STRING THAT SPELLS AN int ('Lib.atoiAll .. = .ok v'; of whatever length: leading zeros count): v, AND NO ERROR. The world: as it was, or with the one new row that '[]byte(..)' lays. (LAID: no walk: one application.) -/
theorem Tryz.strconv_Atoi_ok (s : ByteArray) (hmax : s.size ≤ 9223372036854775806) (v : Int) (h : Lib.atoiAll s.data.toList = .ok v) (w : World) :
    Calls Tryz.prog 115 #[.string s] w fun e w' => e = .returned (.tuple #[.int .i64 v, .nilIface]) ∧ (w' = w ∨ ∃ t, w' = Lib.bytesWorld w 5 t) := Any.strconv_Atoi_ok Tryz.laysC172 s hmax v h w
open Go.RowKit in
theorem Tryz.strconv_Atoi_range_var (s : ByteArray) (hlim : s.size ≤ 281474976710656) (h : Lib.atoiAll s.data.toList = .range) (tp : TypeId) (p : Value) (w : World) (hvar : w.var? Tryz.prog "strconv.ErrRange" = some #[.iface tp p]) :
    Calls Tryz.prog 115 #[.string s] w fun e w' => ∃ N, e = .returned (.tuple #[.int .i64 (Lib.atoiSat s.data.toList), .iface 233 (.pointer (some ⟨N, 0, none⟩))]) ∧ w.heap.size ≤ N ∧ w'.heap[N]? = some (.cells #[.string ⟨#[65, 116, 111, 105]⟩, .string s, .iface tp p] 253 (0, 0)) ∧ Below w.heap.size w w' := Any.strconv_Atoi_range_var Tryz.laysC172 s hlim h tp p w hvar
def Tryz.laysC174_ren : Go.Shelf.Ren := ⟨fun | 174 => 222 | 247 => 193 | 245 => 165 | 287 => 205 | 279 => 194 | 280 => 195 | 281 => 196 | 282 => 197 | 321 => 220 | 322 => 221 | 316 => 213 | 171 => 116 | 205 => 214 | 243 => 166 | 246 => 198 | 283 => 215 | 284 => 216 | 285 => 217 | 286 => 218 | 129 => 153 | 317 => 223 | 318 => 224 | 319 => 225 | 320 => 226 | 337 => 227 | 338 => 228 | n => n, fun | 9 => 9 | 3 => 3 | 2 => 2 | 75 => 158 | 85 => 231 | 4 => 4 | 167 => 230 | 5 => 5 | 53 => 151 | 175 => 215 | 46 => 147 | 168 => 233 | 37 => 176 | 0 => 0 | 210 => 253 | 21 => 21 | 127 => 210 | 145 => 264 | 143 => 262 | 171 => 255 | 173 => 257 | 212 => 267 | 51 => 198 | 20 => 20 | 213 => 268 | 232 => 269 | 233 => 270 | 80 => 180 | n => n, fun | 15 => 0 | 16 => 1 | 17 => 3 | 18 => 4 | 19 => 5 | n => n⟩
theorem Tryz.laysC174 : Go.Proofs.LaysC.n174 Tryz.prog Tryz.laysC174_ren := {
  mixed := by kernel_rfl
  f129 := Tryz.func153.trans (congrArg some (by kernel_rfl))
  f171 := Tryz.func116.trans (congrArg some (by kernel_rfl))
  f174 := Tryz.func222.trans (congrArg some (by kernel_rfl))
  f205 := Tryz.func214.trans (congrArg some (by kernel_rfl))
  f243 := Tryz.func166.trans (congrArg some (by kernel_rfl))
  f245 := Tryz.func165.trans (congrArg some (by kernel_rfl))
  f246 := Tryz.func198.trans (congrArg some (by kernel_rfl))
  f247 := Tryz.func193.trans (congrArg some (by kernel_rfl))
  f279 := Tryz.func194.trans (congrArg some (by kernel_rfl))
  f280 := Tryz.func195.trans (congrArg some (by kernel_rfl))
  f281 := Tryz.func196.trans (congrArg some (by kernel_rfl))
  f282 := Tryz.func197.trans (congrArg some (by kernel_rfl))
  f283 := Tryz.func215.trans (congrArg some (by kernel_rfl))
  f284 := Tryz.func216.trans (congrArg some (by kernel_rfl))
  f285 := Tryz.func217.trans (congrArg some (by kernel_rfl))
  f286 := Tryz.func218.trans (congrArg some (by kernel_rfl))
  f287 := Tryz.func205.trans (congrArg some (by kernel_rfl))
  f316 := Tryz.func213.trans (congrArg some (by kernel_rfl))
  f317 := Tryz.func223.trans (congrArg some (by kernel_rfl))
  f318 := Tryz.func224.trans (congrArg some (by kernel_rfl))
  f319 := Tryz.func225.trans (congrArg some (by kernel_rfl))
  f320 := Tryz.func226.trans (congrArg some (by kernel_rfl))
  f321 := Tryz.func220.trans (congrArg some (by kernel_rfl))
  f322 := Tryz.func221.trans (congrArg some (by kernel_rfl))
  f337 := Tryz.func227.trans (congrArg some (by kernel_rfl))
  f338 := Tryz.func228.trans (congrArg some (by kernel_rfl))
  t0 := Tryz.underlying0
  a0 := Tryz.isAgg0
  z0 := Tryz.sizeOf0
  v0 := Tryz.zeroValue0
  t2 := Tryz.underlying2
  a2 := Tryz.isAgg2
  z2 := Tryz.sizeOf2
  v2 := Tryz.zeroValue2
  t3 := Tryz.underlying3
  a3 := Tryz.isAgg3
  z3 := Tryz.sizeOf3
  v3 := Tryz.zeroValue3
  t4 := Tryz.underlying4
  a4 := Tryz.isAgg4
  z4 := Tryz.sizeOf4
  v4 := Tryz.zeroValue4
  t5 := Tryz.underlying5
  a5 := Tryz.isAgg5
  z5 := Tryz.sizeOf5
  v5 := Tryz.zeroValue5
  t9 := Tryz.underlying9
  a9 := Tryz.isAgg9
  z9 := Tryz.sizeOf9
  v9 := Tryz.zeroValue9
  t20 := Tryz.underlying20
  a20 := Tryz.isAgg20
  z20 := Tryz.sizeOf20
  v20 := Tryz.zeroValue20
  t21 := Tryz.underlying21
  a21 := Tryz.isAgg21
  z21 := Tryz.sizeOf21
  v21 := Tryz.zeroValue21
  t37 := Tryz.underlying176
  a37 := Tryz.isAgg176
  z37 := Tryz.sizeOf176
  v37 := Tryz.zeroValue176
  t46 := Tryz.underlying147
  a46 := Tryz.isAgg147
  z46 := Tryz.sizeOf147
  v46 := Tryz.zeroValue147
  t51 := Tryz.underlying198
  a51 := Tryz.isAgg198
  z51 := Tryz.sizeOf198
  v51 := Tryz.zeroValue198
  t53 := Tryz.underlying151
  a53 := Tryz.isAgg151
  z53 := Tryz.sizeOf151
  v53 := Tryz.zeroValue151
  t75 := Tryz.underlying158
  a75 := Tryz.isAgg158
  z75 := Tryz.sizeOf158
  v75 := Tryz.zeroValue158
  t85 := Tryz.underlying231
  a85 := Tryz.isAgg231
  z85 := Tryz.sizeOf231
  v85 := Tryz.zeroValue231
  t127 := Tryz.underlying210
  a127 := Tryz.isAgg210
  z127 := Tryz.sizeOf210
  v127 := Tryz.zeroValue210
  t143 := Tryz.underlying262
  a143 := Tryz.isAgg262
  z143 := Tryz.sizeOf262
  v143 := Tryz.zeroValue262
  t145 := Tryz.underlying264
  a145 := Tryz.isAgg264
  z145 := Tryz.sizeOf264
  v145 := Tryz.zeroValue264
  t167 := Tryz.underlying230
  a167 := Tryz.isAgg230
  z167 := Tryz.sizeOf230
  v167 := Tryz.zeroValue230
  t168 := Tryz.underlying233
  a168 := Tryz.isAgg233
  z168 := Tryz.sizeOf233
  v168 := Tryz.zeroValue233
  t171 := Tryz.underlying255
  a171 := Tryz.isAgg255
  z171 := Tryz.sizeOf255
  v171 := Tryz.zeroValue255
  t173 := Tryz.underlying257
  a173 := Tryz.isAgg257
  z173 := Tryz.sizeOf257
  v173 := Tryz.zeroValue257
  t175 := Tryz.underlying215
  a175 := Tryz.isAgg215
  z175 := Tryz.sizeOf215
  v175 := Tryz.zeroValue215
  t210 := Tryz.underlying253
  a210 := Tryz.isAgg253
  z210 := Tryz.sizeOf253
  v210 := Tryz.zeroValue253
  t212 := Tryz.underlying267
  a212 := Tryz.isAgg267
  z212 := Tryz.sizeOf267
  v212 := Tryz.zeroValue267
  t213 := Tryz.underlying268
  a213 := Tryz.isAgg268
  z213 := Tryz.sizeOf268
  t232 := Tryz.underlying269
  a232 := Tryz.isAgg269
  z232 := Tryz.sizeOf269
  v232 := Tryz.zeroValue269
  t233 := Tryz.underlying270
  a233 := Tryz.isAgg270
  z233 := Tryz.sizeOf270
  v233 := Tryz.zeroValue270
  g15 := by kernel_rfl
  g16 := by kernel_rfl
  g17 := by kernel_rfl
  g18 := by kernel_rfl
  g19 := by kernel_rfl
  t80 := Tryz.underlying180
  a80 := Tryz.isAgg180
  z80 := Tryz.sizeOf180
  v80 := Tryz.zeroValue180
  i0 := by kernel_rfl
  i2 := by kernel_rfl
  i3 := by kernel_rfl
  i4 := by kernel_rfl
  i5 := by kernel_rfl
  i9 := by kernel_rfl
  i20 := by kernel_rfl
  i21 := by kernel_rfl
  i37 := by kernel_rfl
  i46 := by kernel_rfl
  i51 := by kernel_rfl
  i53 := by kernel_rfl
  i75 := by kernel_rfl
  i80 := by kernel_rfl
  i85 := by kernel_rfl
  i127 := by kernel_rfl
  i143 := by kernel_rfl
  i145 := by kernel_rfl
  i167 := by kernel_rfl
  i168 := by kernel_rfl
  i171 := by kernel_rfl
  i173 := by kernel_rfl
  i175 := by kernel_rfl
  i210 := by kernel_rfl
  i212 := by kernel_rfl
  i232 := by kernel_rfl
  i233 := by kernel_rfl
  m15 := by kernel_rfl
  m16 := by kernel_rfl
  m17 := by kernel_rfl
  m18 := by kernel_rfl
  m19 := by kernel_rfl
  c0 := by kernel_rfl
  c2 := by kernel_rfl
  c3 := by kernel_rfl
  c4 := by kernel_rfl
  c5 := by kernel_rfl
  c9 := by kernel_rfl
  c20 := by kernel_rfl
  c21 := by kernel_rfl
  c37 := by kernel_rfl
  c46 := by kernel_rfl
  c51 := by kernel_rfl
  c53 := by kernel_rfl
  c75 := by kernel_rfl
  c80 := by kernel_rfl
  c85 := by kernel_rfl
  c127 := by kernel_rfl
  c143 := by kernel_rfl
  c145 := by kernel_rfl
  c167 := by kernel_rfl
  c168 := by kernel_rfl
  c171 := by kernel_rfl
  c173 := by kernel_rfl
  c175 := by kernel_rfl
  c210 := by kernel_rfl
  c212 := by kernel_rfl
  c213 := by kernel_rfl
  c232 := by kernel_rfl
  c233 := by kernel_rfl }
open Go.RowKit in
/-- strconv.ParseInt(s, 10, 64), AT EVERY STRING THAT SPELLS AN int64 ('Lib.parseIntB 64 s.data.toList = .ok v'): v, AND NO ERROR. (LAID: no walk: one application.) -/
theorem Tryz.strconv_ParseInt_10_at64_ok (s : ByteArray) (hmax : s.size ≤ 9223372036854775806) (v : Int) (h : Lib.parseIntB 64 s.data.toList = .ok v) (w : World) :
    Calls Tryz.prog 222 #[.string s, .int .i64 10, .int .i64 64] w fun e w' => e = .returned (.tuple #[.int .i64 v, .nilIface]) ∧ (w' = w ∨ ∃ t, w' = Lib.bytesWorld w 5 t) := Any.strconv_ParseInt_10_at64_ok Tryz.laysC174 s hmax v h w
open Go.RowKit in
theorem Tryz.strconv_ParseInt_10_at64_range_var (s : ByteArray) (hlim : s.size ≤ 281474976710656) (h : Lib.parseIntB 64 s.data.toList = .range) (tp : TypeId) (p : Value) (w : World) (hvar : w.var? Tryz.prog "strconv.ErrRange" = some #[.iface tp p]) :
    Calls Tryz.prog 222 #[.string s, .int .i64 10, .int .i64 64] w fun e w' => ∃ N, e = .returned (.tuple #[.int .i64 (Lib.intSat 64 s.data.toList), .iface 233 (.pointer (some ⟨N, 0, none⟩))]) ∧ w.heap.size ≤ N ∧ w'.heap[N]? = some (.cells #[.string ⟨#[80, 97, 114, 115, 101, 73, 110, 116]⟩, .string s, .iface tp p] 253 (0, 0)) ∧ Below w.heap.size w w' := Any.strconv_ParseInt_10_at64_range_var Tryz.laysC174 s hlim h tp p w hvar
def Tryz.laysPu14_ren : Go.Shelf.Ren := ⟨fun | 14 => 181 | 16 => 205 | 17 => 165 | 19 => 220 | 20 => 221 | 21 => 194 | 22 => 195 | 23 => 196 | 24 => 197 | 25 => 213 | 27 => 116 | 26 => 214 | 28 => 166 | 29 => 198 | 30 => 215 | 31 => 216 | 32 => 217 | 33 => 218 | 35 => 153 | 34 => 223 | 36 => 224 | 37 => 225 | 38 => 226 | 39 => 227 | 40 => 228 | n => n, fun | 9 => 9 | 3 => 3 | 22 => 151 | 24 => 158 | 25 => 215 | 4 => 4 | 34 => 230 | 5 => 5 | 36 => 147 | 37 => 176 | 0 => 0 | 39 => 233 | 21 => 21 | 44 => 253 | 47 => 210 | 50 => 264 | 48 => 262 | 2 => 2 | 52 => 255 | 55 => 257 | 59 => 267 | 60 => 198 | 20 => 20 | 61 => 268 | 65 => 269 | 66 => 270 | 67 => 180 | n => n, fun | 0 => 0 | 1 => 1 | 2 => 3 | 3 => 4 | 4 => 5 | n => n⟩
theorem Tryz.laysPu14 : Go.Proofs.LaysPu.n14 Tryz.prog Tryz.laysPu14_ren := {
  mixed := by kernel_rfl
  f14 := Tryz.func181.trans (congrArg some (by kernel_rfl))
  f16 := Tryz.func205.trans (congrArg some (by kernel_rfl))
  f17 := Tryz.func165.trans (congrArg some (by kernel_rfl))
  f19 := Tryz.func220.trans (congrArg some (by kernel_rfl))
  f20 := Tryz.func221.trans (congrArg some (by kernel_rfl))
  f21 := Tryz.func194.trans (congrArg some (by kernel_rfl))
  f22 := Tryz.func195.trans (congrArg some (by kernel_rfl))
  f23 := Tryz.func196.trans (congrArg some (by kernel_rfl))
  f24 := Tryz.func197.trans (congrArg some (by kernel_rfl))
  f25 := Tryz.func213.trans (congrArg some (by kernel_rfl))
  f26 := Tryz.func214.trans (congrArg some (by kernel_rfl))
  f27 := Tryz.func116.trans (congrArg some (by kernel_rfl))
  f28 := Tryz.func166.trans (congrArg some (by kernel_rfl))
  f29 := Tryz.func198.trans (congrArg some (by kernel_rfl))
  f30 := Tryz.func215.trans (congrArg some (by kernel_rfl))
  f31 := Tryz.func216.trans (congrArg some (by kernel_rfl))
  f32 := Tryz.func217.trans (congrArg some (by kernel_rfl))
  f33 := Tryz.func218.trans (congrArg some (by kernel_rfl))
  f34 := Tryz.func223.trans (congrArg some (by kernel_rfl))
  f35 := Tryz.func153.trans (congrArg some (by kernel_rfl))
  f36 := Tryz.func224.trans (congrArg some (by kernel_rfl))
  f37 := Tryz.func225.trans (congrArg some (by kernel_rfl))
  f38 := Tryz.func226.trans (congrArg some (by kernel_rfl))
  f39 := Tryz.func227.trans (congrArg some (by kernel_rfl))
  f40 := Tryz.func228.trans (congrArg some (by kernel_rfl))
  t0 := Tryz.underlying0
  a0 := Tryz.isAgg0
  z0 := Tryz.sizeOf0
  v0 := Tryz.zeroValue0
  i0 := by kernel_rfl
  t2 := Tryz.underlying2
  a2 := Tryz.isAgg2
  z2 := Tryz.sizeOf2
  v2 := Tryz.zeroValue2
  i2 := by kernel_rfl
  t3 := Tryz.underlying3
  a3 := Tryz.isAgg3
  z3 := Tryz.sizeOf3
  v3 := Tryz.zeroValue3
  i3 := by kernel_rfl
  t4 := Tryz.underlying4
  a4 := Tryz.isAgg4
  z4 := Tryz.sizeOf4
  v4 := Tryz.zeroValue4
  i4 := by kernel_rfl
  t5 := Tryz.underlying5
  a5 := Tryz.isAgg5
  z5 := Tryz.sizeOf5
  v5 := Tryz.zeroValue5
  i5 := by kernel_rfl
  t9 := Tryz.underlying9
  a9 := Tryz.isAgg9
  z9 := Tryz.sizeOf9
  v9 := Tryz.zeroValue9
  i9 := by kernel_rfl
  t20 := Tryz.underlying20
  a20 := Tryz.isAgg20
  z20 := Tryz.sizeOf20
  v20 := Tryz.zeroValue20
  i20 := by kernel_rfl
  t21 := Tryz.underlying21
  a21 := Tryz.isAgg21
  z21 := Tryz.sizeOf21
  v21 := Tryz.zeroValue21
  i21 := by kernel_rfl
  t22 := Tryz.underlying151
  a22 := Tryz.isAgg151
  z22 := Tryz.sizeOf151
  v22 := Tryz.zeroValue151
  i22 := by kernel_rfl
  t24 := Tryz.underlying158
  a24 := Tryz.isAgg158
  z24 := Tryz.sizeOf158
  v24 := Tryz.zeroValue158
  i24 := by kernel_rfl
  t25 := Tryz.underlying215
  a25 := Tryz.isAgg215
  z25 := Tryz.sizeOf215
  v25 := Tryz.zeroValue215
  i25 := by kernel_rfl
  t34 := Tryz.underlying230
  a34 := Tryz.isAgg230
  z34 := Tryz.sizeOf230
  v34 := Tryz.zeroValue230
  i34 := by kernel_rfl
  c34 := by kernel_rfl
  t36 := Tryz.underlying147
  a36 := Tryz.isAgg147
  z36 := Tryz.sizeOf147
  v36 := Tryz.zeroValue147
  i36 := by kernel_rfl
  t37 := Tryz.underlying176
  a37 := Tryz.isAgg176
  z37 := Tryz.sizeOf176
  v37 := Tryz.zeroValue176
  i37 := by kernel_rfl
  t39 := Tryz.underlying233
  a39 := Tryz.isAgg233
  z39 := Tryz.sizeOf233
  v39 := Tryz.zeroValue233
  i39 := by kernel_rfl
  t44 := Tryz.underlying253
  a44 := Tryz.isAgg253
  z44 := Tryz.sizeOf253
  v44 := Tryz.zeroValue253
  i44 := by kernel_rfl
  t47 := Tryz.underlying210
  a47 := Tryz.isAgg210
  z47 := Tryz.sizeOf210
  v47 := Tryz.zeroValue210
  i47 := by kernel_rfl
  t48 := Tryz.underlying262
  a48 := Tryz.isAgg262
  z48 := Tryz.sizeOf262
  v48 := Tryz.zeroValue262
  i48 := by kernel_rfl
  t50 := Tryz.underlying264
  a50 := Tryz.isAgg264
  z50 := Tryz.sizeOf264
  v50 := Tryz.zeroValue264
  i50 := by kernel_rfl
  t52 := Tryz.underlying255
  a52 := Tryz.isAgg255
  z52 := Tryz.sizeOf255
  v52 := Tryz.zeroValue255
  i52 := by kernel_rfl
  t55 := Tryz.underlying257
  a55 := Tryz.isAgg257
  z55 := Tryz.sizeOf257
  v55 := Tryz.zeroValue257
  i55 := by kernel_rfl
  t59 := Tryz.underlying267
  a59 := Tryz.isAgg267
  z59 := Tryz.sizeOf267
  v59 := Tryz.zeroValue267
  i59 := by kernel_rfl
  t60 := Tryz.underlying198
  a60 := Tryz.isAgg198
  z60 := Tryz.sizeOf198
  v60 := Tryz.zeroValue198
  i60 := by kernel_rfl
  t61 := Tryz.underlying268
  a61 := Tryz.isAgg268
  z61 := Tryz.sizeOf268
  t65 := Tryz.underlying269
  a65 := Tryz.isAgg269
  z65 := Tryz.sizeOf269
  v65 := Tryz.zeroValue269
  i65 := by kernel_rfl
  t66 := Tryz.underlying270
  a66 := Tryz.isAgg270
  z66 := Tryz.sizeOf270
  v66 := Tryz.zeroValue270
  i66 := by kernel_rfl
  t67 := Tryz.underlying180
  a67 := Tryz.isAgg180
  z67 := Tryz.sizeOf180
  v67 := Tryz.zeroValue180
  i67 := by kernel_rfl
  g0 := by kernel_rfl
  m0 := by kernel_rfl
  g1 := by kernel_rfl
  m1 := by kernel_rfl
  g2 := by kernel_rfl
  m2 := by kernel_rfl
  g3 := by kernel_rfl
  m3 := by kernel_rfl
  g4 := by kernel_rfl
  m4 := by kernel_rfl }
open Go.RowKit in
/-- strconv.ParseUint(s, 10, 64), AT EVERY STRING THAT SPELLS A uint64 ('Lib.parseUintB 64 s.data.toList = .ok u'): u, AND NO ERROR. (LAID: no walk: one application.) -/
theorem Tryz.strconv_ParseUint_10_at64_ok (s : ByteArray) (hmax : s.size ≤ 9223372036854775806) (u : Nat) (h : Lib.parseUintB 64 s.data.toList = .ok u) (w : World) :
    Calls Tryz.prog 181 #[.string s, .int .i64 10, .int .i64 64] w fun e w' => e = .returned (.tuple #[.int .u64 u, .nilIface]) ∧ (w' = w ∨ w' = Lib.bytesWorld w 5 s) := Any.strconv_ParseUint_10_at64_ok Tryz.laysPu14 s hmax u h w
open Go.RowKit in
theorem Tryz.strconv_ParseUint_10_at64_range_var (s : ByteArray) (hlim : s.size ≤ 281474976710656) (h : Lib.parseUintB 64 s.data.toList = .range) (tp : TypeId) (p : Value) (w : World) (hvar : w.var? Tryz.prog "strconv.ErrRange" = some #[.iface tp p]) :
    Calls Tryz.prog 181 #[.string s, .int .i64 10, .int .i64 64] w fun e w' => ∃ N, e = .returned (.tuple #[.int .u64 18446744073709551615, .iface 233 (.pointer (some ⟨N, 0, none⟩))]) ∧ w.heap.size ≤ N ∧ w'.heap[N]? = some (.cells #[.string ⟨#[80, 97, 114, 115, 101, 85, 105, 110, 116]⟩, .string s, .iface tp p] 253 (0, 0)) ∧ Below w.heap.size w w' := Any.strconv_ParseUint_10_at64_range_var Tryz.laysPu14 s hlim h tp p w hvar
def Tryz.lays99_ren : Go.Shelf.Ren := ⟨fun | 99 => 129 | 206 => 170 | n => n, fun | 9 => 9 | 4 => 4 | 3 => 3 | n => n, fun | n => n⟩
theorem Tryz.lays99 : Go.Proofs.Lays.n99 Tryz.prog Tryz.lays99_ren := {
  mixed := by kernel_rfl
  f99 := Tryz.func129.trans (congrArg some (by kernel_rfl))
  f206 := Tryz.func170.trans (congrArg some (by kernel_rfl))
  t3 := Tryz.underlying3
  a3 := Tryz.isAgg3
  z3 := Tryz.sizeOf3
  v3 := Tryz.zeroValue3
  t4 := Tryz.underlying4
  a4 := Tryz.isAgg4
  z4 := Tryz.sizeOf4
  v4 := Tryz.zeroValue4
  t9 := Tryz.underlying9
  a9 := Tryz.isAgg9
  z9 := Tryz.sizeOf9
  v9 := Tryz.zeroValue9 }
open Go.RowKit Go.Lib in
/-- strings.HasPrefix: "HasPrefix reports whether the string s begins with prefix.": IT RETURNS 'Lib.hasPrefix s prefix'; the world is as it was. (LAID: no walk: one application.) -/
theorem Tryz.strings_HasPrefix (s p : ByteArray) (w : World) :
    Calls Tryz.prog 129 #[.string s, .string p] w fun e w' => e = .returned (.bool (Lib.hasPrefix s.data.toList p.data.toList)) ∧ w' = w := Any.strings_HasPrefix Tryz.lays99 s p w
def Tryz.lays264_ren : Go.Shelf.Ren := ⟨fun | 264 => 169 | n => n, fun | 53 => 151 | 46 => 147 | n => n, fun | n => n⟩
theorem Tryz.lays264 : Go.Proofs.Lays.n264 Tryz.prog Tryz.lays264_ren := {
  mixed := by kernel_rfl
  f264 := Tryz.func169.trans (congrArg some (by kernel_rfl))
  t46 := Tryz.underlying147
  a46 := Tryz.isAgg147
  z46 := Tryz.sizeOf147
  v46 := Tryz.zeroValue147
  t53 := Tryz.underlying151
  a53 := Tryz.isAgg151
  z53 := Tryz.sizeOf151
  v53 := Tryz.zeroValue151 }
open Go.RowKit Go.Lib in
theorem Tryz.bits_Mul64 (x y : Nat) (hx : x < 18446744073709551616) (hy : y < 18446744073709551616) (w : World) :
    Calls Tryz.prog 169 #[.int .u64 x, .int .u64 y] w fun e w' => e = .returned (.tuple #[.int .u64 ((x * y / 18446744073709551616 : Nat) : Int), .int .u64 ((x * y % 18446744073709551616 : Nat) : Int)]) ∧ w' = w := Any.bits_Mul64 Tryz.lays264 x y hx hy w
def Tryz.lays212_ren : Go.Shelf.Ren := ⟨fun | 212 => 128 | 263 => 168 | 264 => 169 | n => n, fun | 46 => 147 | 51 => 198 | 146 => 206 | 53 => 151 | 148 => 208 | n => n, fun | n => n⟩
theorem Tryz.lays212 : Go.Proofs.Lays.n212 Tryz.prog Tryz.lays212_ren := {
  mixed := by kernel_rfl
  f212 := Tryz.func128.trans (congrArg some (by kernel_rfl))
  f263 := Tryz.func168.trans (congrArg some (by kernel_rfl))
  f264 := Tryz.func169.trans (congrArg some (by kernel_rfl))
  t46 := Tryz.underlying147
  a46 := Tryz.isAgg147
  z46 := Tryz.sizeOf147
  v46 := Tryz.zeroValue147
  t51 := Tryz.underlying198
  a51 := Tryz.isAgg198
  z51 := Tryz.sizeOf198
  v51 := Tryz.zeroValue198
  t53 := Tryz.underlying151
  a53 := Tryz.isAgg151
  z53 := Tryz.sizeOf151
  v53 := Tryz.zeroValue151
  t146 := Tryz.underlying206
  a146 := Tryz.isAgg206
  z146 := Tryz.sizeOf206
  v146 := Tryz.zeroValue206
  t148 := Tryz.underlying208
  a148 := Tryz.isAgg208
  z148 := Tryz.sizeOf208
  v148 := Tryz.zeroValue208 }
open Go.RowKit Go.Lib in
/-- math/bits.Mul: "Mul returns the full-width product of x and y": on a machine of 64 bits: Mul64's. (LAID: no walk: one application.) -/
theorem Tryz.bits_Mul (x y : Nat) (hx : x < 18446744073709551616) (hy : y < 18446744073709551616) (w : World) :
    Calls Tryz.prog 128 #[.int .u64 x, .int .u64 y] w fun e w' => e = .returned (.tuple #[.int .u64 ((x * y / 18446744073709551616 : Nat) : Int), .int .u64 ((x * y % 18446744073709551616 : Nat) : Int)]) ∧ w' = w := Any.bits_Mul Tryz.lays212 x y hx hy w
end Go.Proofs
/- Plain facts about decimal numerals: the text of a natural number and of an integer, their sizes, their bytes, and what the library's parsers read out of them. -/
namespace Go.Proofs.YtbihoedcbmnccaaGreatDoor

/-- The decimal text of a natural number, and of an integer. -/
def D (n : Nat) : ByteArray := ⟨(Lib.decDigits n).toArray⟩
def I (n : Int) : ByteArray := ⟨(Lib.itoa n).toArray⟩
/-- A digit's byte. -/
def db (d : Nat) : UInt8 := UInt8.ofNat (48 + d)

theorem db_toNat {d : Nat} (h : d < 10) : (db d).toNat = 48 + d := by
  unfold db; rw [UInt8.toNat_ofNat']; omega
theorem db_inj {a b : Nat} (ha : a < 10) (hb : b < 10) (h : db a = db b) : a = b := by
  have := congrArg UInt8.toNat h; rw [db_toNat ha, db_toNat hb] at this; omega

theorem dig_small {n : Nat} (h : n < 10) : Lib.decDigits n = [db n] := by rw [Lib.decDigits, dif_pos h]; rfl
theorem dig_big {n : Nat} (h : ¬ n < 10) : Lib.decDigits n = Lib.decDigits (n / 10) ++ [db (n % 10)] := by rw [Lib.decDigits, dif_neg h]; rfl
theorem dig_ne (n : Nat) : Lib.decDigits n ≠ [] := by
  intro h; have := Lib.decDigits_length n; rw [h] at this; have := Lib.nDigits_pos n; simp at *; omega

theorem D_size (n : Nat) : (D n).size = Lib.nDigits n := by simp [D, ByteArray.size, Lib.decDigits_length]
theorem D_list (n : Nat) : (D n).data.toList = Lib.decDigits n := by simp [D]
theorem I_list (n : Int) : (I n).data.toList = Lib.itoa n := by simp [I]
theorem I_nonneg {n : Int} (h : 0 ≤ n) : I n = D n.toNat := by unfold I D Lib.itoa; rw [if_neg (by omega)]
theorem I_nat (n : Nat) : I (n : Int) = D n := by rw [I_nonneg (by omega)]; simp
theorem I_neg_list {n : Int} (h : n < 0) : (I n).data.toList = 45 :: Lib.decDigits n.natAbs := by rw [I_list]; unfold Lib.itoa; rw [if_pos h]
theorem I_neg_size {n : Int} (h : n < 0) : (I n).size = 1 + (D n.natAbs).size := by
  have := congrArg List.length (I_neg_list h); simp only [List.length_cons, Array.length_toList] at this
  rw [D_size, ← Lib.decDigits_length]; show (I n).data.size = _; omega
theorem D_pos (n : Nat) : 0 < (D n).size := by rw [D_size]; exact Lib.nDigits_pos n
theorem I_pos (n : Int) : 0 < (I n).size := by
  rcases Int.lt_or_le n 0 with h | h
  · rw [I_neg_size h]; omega
  · rw [I_nonneg h]; exact D_pos _

theorem ba_ext {a b : ByteArray} (h : a.data.toList = b.data.toList) : a = b := by
  cases a; cases b; congr 1; exact Array.toList_inj.mp h

/-- Each digit. -/
theorem decDigits_digits : ∀ (n : Nat) (b : UInt8), b ∈ Lib.decDigits n → 48 ≤ b.toNat ∧ b.toNat ≤ 57 := by
  intro n
  induction n using Nat.strongRecOn with
  | _ n ih =>
    intro b hb
    by_cases h : n < 10
    · rw [dig_small h] at hb; simp at hb; subst hb; rw [db_toNat h]; omega
    · rw [dig_big h] at hb
      rcases List.mem_append.1 hb with hb | hb
      · exact ih (n / 10) (by omega) b hb
      · simp at hb; subst hb; rw [db_toNat (by omega)]; omega

/-- The first digit is 0 at 0 alone. -/
theorem decDigits_head : ∀ (n : Nat), 0 < n → (Lib.decDigits n).head?.map UInt8.toNat ≠ some 48 := by
  intro n
  induction n using Nat.strongRecOn with
  | _ n ih =>
    intro h0
    by_cases h : n < 10
    · rw [dig_small h]; simp [db_toNat h]; omega
    · rw [dig_big h, List.head?_append]
      have hne := dig_ne (n / 10)
      have := ih (n / 10) (by omega) (by omega)
      cases hl : Lib.decDigits (n / 10) with
      | nil => exact absurd hl hne
      | cons a t => rw [hl] at this; simpa using this

theorem D_zero : D 0 = ⟨#[48]⟩ := by unfold D; rw [dig_small (by decide)]; rfl

/-- The value of a digit's byte, and of a row of digits (nothing is asked of the bytes). -/
@[irreducible] def dv (b : UInt8) : Nat := b.toNat - 48
theorem dv_eq (b : UInt8) : dv b = b.toNat - 48 := by unfold dv; rfl
def dval (acc : Nat) : List UInt8 → Nat
  | [] => acc
  | b :: r => dval (acc * 10 + dv b) r
theorem dval_nil (acc : Nat) : dval acc [] = acc := rfl
theorem dval_cons (acc : Nat) (b : UInt8) (r : List UInt8) : dval acc (b :: r) = dval (acc * 10 + dv b) r := rfl
theorem dval_append (a b : List UInt8) : ∀ acc, dval acc (a ++ b) = dval (dval acc a) b := by
  induction a with
  | nil => intro acc; rfl
  | cons x t ih => intro acc; exact ih _
theorem dval_acc (l : List UInt8) : ∀ acc, dval acc l = acc * 10 ^ l.length + dval 0 l := by
  induction l with
  | nil => intro acc; show acc = acc * 10 ^ 0 + 0; rw [Nat.pow_zero, Nat.mul_one, Nat.add_zero]
  | cons x t ih =>
    intro acc
    show dval (acc * 10 + dv x) t = acc * 10 ^ (t.length + 1) + dval (0 * 10 + dv x) t
    rw [ih (acc * 10 + dv x), ih (0 * 10 + dv x), Nat.pow_succ, Nat.add_mul, Nat.add_mul, Nat.zero_mul, Nat.zero_add]
    generalize 10 ^ t.length = P
    generalize dv x * P = Q
    rw [Nat.mul_assoc acc 10 P, Nat.mul_comm 10 P, Nat.add_assoc]
theorem dval_lt (l : List UInt8) : (∀ b ∈ l, b.toNat ≤ 57) → dval 0 l < 10 ^ l.length := by
  induction l with
  | nil => intro _; show 0 < 10 ^ 0; decide
  | cons x t ih =>
    intro h
    show dval (0 * 10 + dv x) t < 10 ^ (t.length + 1)
    rw [dval_acc, Nat.pow_succ, Nat.zero_mul, Nat.zero_add]
    have h1 := ih fun b hb => h b (List.mem_cons_of_mem _ hb)
    have h2 := h x (List.mem_cons_self ..)
    have h3 : dv x * 10 ^ t.length ≤ 9 * 10 ^ t.length := Nat.mul_le_mul_right _ (by rw [dv_eq]; omega)
    generalize 10 ^ t.length = P at h1 h3 ⊢
    omega
theorem dval_one (acc : Nat) (b : UInt8) : dval acc [b] = acc * 10 + dv b := rfl
theorem dval_dec (n : Nat) : dval 0 (Lib.decDigits n) = n := by
  induction n using Nat.strongRecOn with
  | _ n ih =>
    by_cases h : n < 10
    · rw [dig_small h, dval_one, dv_eq, db_toNat h]; omega
    · have e := ih (n / 10) (by omega)
      rw [dig_big h, dval_append, e, dval_one, dv_eq, db_toNat (by omega)]; omega

theorem decFrom_dval (l : List UInt8) (h : ∀ b ∈ l, 48 ≤ b.toNat ∧ b.toNat ≤ 57) : ∀ acc, Lib.decFrom acc l = some (dval acc l) := by
  induction l with
  | nil => intro acc; rfl
  | cons x t ih =>
    intro acc
    have hx := h x (List.mem_cons_self ..)
    simp only [Lib.decFrom, Lib.digitVal, if_pos hx, dval_cons, ← dv_eq]
    exact ih (fun b hb => h b (List.mem_cons_of_mem _ hb)) _

theorem D_inj {a b : Nat} (h : D a = D b) : a = b := by
  have := congrArg (fun x => dval 0 x.data.toList) h
  simpa only [D_list, dval_dec] using this
theorem D_eq (a b : Nat) : D a = D b ↔ a = b := ⟨D_inj, fun h => by rw [h]⟩

/-- The head of an integer's text. -/
theorem I_head_neg {n : Int} (h : n < 0) : (I n).data.toList.head? = some 45 := by rw [I_neg_list h]; rfl
theorem D_head (n : Nat) : ∃ b, (D n).data.toList.head? = some b ∧ 48 ≤ b.toNat ∧ b.toNat ≤ 57 ∧ (b.toNat = 48 ↔ n = 0) := by
  rw [D_list]
  cases hl : Lib.decDigits n with
  | nil => exact absurd hl (dig_ne n)
  | cons b t =>
    have hb := decDigits_digits n b (by rw [hl]; exact List.mem_cons_self ..)
    refine ⟨b, rfl, hb.1, hb.2, ?_, ?_⟩
    · intro h48
      rcases Nat.eq_zero_or_pos n with h | h
      · exact h
      · have := decDigits_head n h; rw [hl] at this; simp at this; exact absurd h48 this
    · intro h0; subst h0; rw [dig_small (by decide)] at hl; injection hl with e _; rw [← e, db_toNat (by decide)]

theorem I_inj {a b : Int} (h : I a = I b) : a = b := by
  have hh : (I a).data.toList.head? = (I b).data.toList.head? := by rw [h]
  rcases Int.lt_or_le a 0 with ha | ha <;> rcases Int.lt_or_le b 0 with hb | hb
  · have := congrArg (fun x => x.data.toList) h
    simp only [I_neg_list ha, I_neg_list hb] at this
    injection this with _ e
    have := congrArg (dval 0) e
    rw [dval_dec, dval_dec] at this; omega
  · rw [I_head_neg ha, I_nonneg hb] at hh
    obtain ⟨c, e, h1, _⟩ := D_head b.toNat
    rw [e] at hh; injection hh with hh; subst hh; exact absurd h1 (by decide)
  · rw [I_head_neg hb, I_nonneg ha] at hh
    obtain ⟨c, e, h1, _⟩ := D_head a.toNat
    rw [e] at hh; injection hh with hh; subst hh; exact absurd h1 (by decide)
  · rw [I_nonneg ha, I_nonneg hb] at h
    have := D_inj h; omega
theorem I_eq (a b : Int) : I a = I b ↔ a = b := ⟨I_inj, fun h => by rw [h]⟩
theorem I_zero : I 0 = ⟨#[48]⟩ := by rw [I_nonneg (by decide)]; exact D_zero
theorem I_eq_zero (n : Int) : I n = ⟨#[48]⟩ ↔ n = 0 := by rw [← I_zero]; exact I_eq n 0
theorem D_eq_zero (n : Nat) : D n = ⟨#[48]⟩ ↔ n = 0 := by rw [← D_zero]; exact D_eq n 0

/-! ### Sizes -/
theorem nDigits_le {n k : Nat} (hk : 0 < k) (h : n < 10 ^ k) : Lib.nDigits n ≤ k := by
  induction k generalizing n with
  | zero => omega
  | succ k ih =>
    by_cases h10 : n < 10
    · rw [Lib.nDigits_small h10]; omega
    · rw [Lib.nDigits_big h10]
      have hk0 : 0 < k := by
        rcases Nat.eq_zero_or_pos k with e | e
        · subst e; simp at h; omega
        · exact e
      have := ih (n := n / 10) hk0 (by rw [Nat.pow_succ] at h; omega)
      omega
theorem lt_of_nDigits_le {n k : Nat} (h : Lib.nDigits n ≤ k) : n < 10 ^ k :=
  Nat.lt_of_lt_of_le (Lib.lt_pow_nDigits n) (Nat.pow_le_pow_right (by decide) h)
theorem D_size_le {n k : Nat} (hk : 0 < k) : (D n).size ≤ k ↔ n < 10 ^ k := by
  rw [D_size]; exact ⟨lt_of_nDigits_le, nDigits_le hk⟩
theorem pow_le_of_nDigits : ∀ (n : Nat), 0 < n → 10 ^ (Lib.nDigits n - 1) ≤ n := by
  intro n
  induction n using Nat.strongRecOn with
  | _ n ih =>
    intro h0
    by_cases h : n < 10
    · rw [Lib.nDigits_small h]; simp; omega
    · rw [Lib.nDigits_big h]
      have := ih (n / 10) (by omega) (by omega)
      have hp := Lib.nDigits_pos (n / 10)
      obtain ⟨k, hk⟩ : ∃ k, Lib.nDigits (n / 10) = k + 1 := ⟨_, (Nat.sub_add_cancel hp).symm⟩
      rw [hk] at this ⊢
      simp only [Nat.add_sub_cancel] at this ⊢
      rw [Nat.pow_succ]; omega
theorem nDigits_mono {a b : Nat} (h : a ≤ b) : Lib.nDigits a ≤ Lib.nDigits b :=
  nDigits_le (Lib.nDigits_pos b) (Nat.lt_of_le_of_lt h (Lib.lt_pow_nDigits b))
theorem I_size_le {n : Int} {k : Nat} (h : (I n).size ≤ k) : n.natAbs < 10 ^ k := by
  rcases Int.lt_or_le n 0 with h0 | h0
  · rw [I_neg_size h0, D_size] at h; exact lt_of_nDigits_le (by omega)
  · rw [I_nonneg h0, D_size] at h; have := lt_of_nDigits_le h; omega

/-! ### What the library reads -/
theorem parseUint10_ok (l : List UInt8) (h : ∀ b ∈ l, 48 ≤ b.toNat ∧ b.toNat ≤ 57) : ∀ acc, dval acc l < 18446744073709551616 → Lib.parseUint10 acc l = .ok (dval acc l) := by
  induction l with
  | nil => intro acc _; rfl
  | cons x t ih =>
    intro acc hv
    have hx := h x (List.mem_cons_self ..)
    have hle : acc * 10 + dv x ≤ dval acc (x :: t) := by
      rw [dval_cons, dval_acc]
      have : 1 ≤ 10 ^ t.length := Nat.one_le_pow _ _ (by decide)
      exact Nat.le_trans (Nat.le_mul_of_pos_right _ (by omega)) (Nat.le_add_right _ _)
    simp only [Lib.parseUint10, if_pos hx, ← dv_eq]
    rw [if_neg (by omega), if_neg (by omega)]
    exact ih (fun b hb => h b (List.mem_cons_of_mem _ hb)) _ hv
theorem parseMag_dec {n : Nat} (h : n < 18446744073709551616) : Lib.parseMag (Lib.decDigits n) = .ok n := by
  unfold Lib.parseMag; rw [if_neg (dig_ne n), parseUint10_ok _ (decDigits_digits n) 0 (by rw [dval_dec]; exact h), dval_dec]
theorem atoiAll_I {n : Int} (h0 : -9223372036854775808 ≤ n) (h1 : n ≤ 9223372036854775807) : Lib.atoiAll (I n).data.toList = .ok n := by
  rcases Int.lt_or_le n 0 with h | h
  · rw [I_neg_list h]
    have e : Lib.parseMag (Lib.decDigits n.natAbs) = .ok n.natAbs := parseMag_dec (by omega)
    have h45 : (45 : UInt8).toNat = 45 := rfl
    simp only [Lib.atoiAll, h45, or_true, if_true, e]
    simp only [not_true, false_and, if_false, true_and]
    rw [if_neg (by omega)]; congr 1; omega
  · rw [I_nonneg h, D_list]
    have e : Lib.parseMag (Lib.decDigits n.toNat) = .ok n.toNat := parseMag_dec (by omega)
    cases hl : Lib.decDigits n.toNat with
    | nil => exact absurd hl (dig_ne _)
    | cons c r =>
      have hc := decDigits_digits n.toNat c (by rw [hl]; exact List.mem_cons_self ..)
      have n43 : ¬ (c.toNat = 43 ∨ c.toNat = 45) := by omega
      have n45 : ¬ c.toNat = 45 := by omega
      rw [hl] at e
      unfold Lib.atoiAll
      simp only [if_neg n43]
      rw [e]
      simp only [n45, not_false_eq_true, true_and, false_and, if_false]
      rw [if_neg (by omega)]; congr 1; omega

theorem parseUintM_ok (M : Nat) (l : List UInt8) (h : ∀ b ∈ l, 48 ≤ b.toNat ∧ b.toNat ≤ 57) : ∀ acc, dval acc l ≤ M → dval acc l < 18446744073709551616 → Lib.parseUintM M acc l = .ok (dval acc l) := by
  induction l with
  | nil => intro acc _ _; rfl
  | cons x t ih =>
    intro acc hM hv
    have hx := h x (List.mem_cons_self ..)
    have hle : acc * 10 + dv x ≤ dval acc (x :: t) := by
      rw [dval_cons, dval_acc]
      have : 1 ≤ 10 ^ t.length := Nat.one_le_pow _ _ (by decide)
      exact Nat.le_trans (Nat.le_mul_of_pos_right _ (by omega)) (Nat.le_add_right _ _)
    simp only [Lib.parseUintM, if_pos hx, ← dv_eq]
    first
      | (rw [if_neg (by omega), if_neg (by omega)]; exact ih (fun b hb => h b (List.mem_cons_of_mem _ hb)) _ hM hv)
      | (rw [if_neg (by omega), if_neg (by omega), if_neg (by omega)]; exact ih (fun b hb => h b (List.mem_cons_of_mem _ hb)) _ hM hv)
theorem parseUintB_D {n : Nat} (h : n < 18446744073709551616) : Lib.parseUintB 64 (D n).data.toList = .ok n := by
  rw [D_list]; unfold Lib.parseUintB
  rw [if_neg (dig_ne n), parseUintM_ok _ _ (decDigits_digits n) 0 (by rw [dval_dec]; omega) (by rw [dval_dec]; exact h), dval_dec]
theorem parseUintM_range (M : Nat) (l : List UInt8) (h : ∀ b ∈ l, 48 ≤ b.toNat ∧ b.toNat ≤ 57) : ∀ acc, acc ≤ M → M < dval acc l → Lib.parseUintM M acc l = .range := by
  induction l with
  | nil => intro acc h1 h2; rw [dval_nil] at h2; omega
  | cons x t ih =>
    intro acc h1 h2
    have hx := h x (List.mem_cons_self ..)
    rw [dval_cons] at h2
    simp only [Lib.parseUintM, if_pos hx, ← dv_eq]
    by_cases c1 : 1844674407370955162 ≤ acc
    · rw [if_pos c1]
    · rw [if_neg c1]
      by_cases c2 : M < acc * 10 + dv x
      · rw [if_pos c2]
      · rw [if_neg c2]; exact ih (fun b hb => h b (List.mem_cons_of_mem _ hb)) _ (by omega) h2
theorem parseUintB_D_range {n : Nat} (h : 18446744073709551616 ≤ n) : Lib.parseUintB 64 (D n).data.toList = .range := by
  rw [D_list]; unfold Lib.parseUintB
  rw [if_neg (dig_ne n), parseUintM_range _ _ (decDigits_digits n) 0 (by omega) (by rw [dval_dec]; omega)]
end Go.Proofs.YtbihoedcbmnccaaGreatDoor
