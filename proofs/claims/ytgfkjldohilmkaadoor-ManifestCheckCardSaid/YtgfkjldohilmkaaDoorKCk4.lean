/- Parts of a proof, put together: DERIVED: THE SHELF's CONTRACTS AT THIS DUMP, IN PLAIN WORDS (tools/lay-plain.mjs out of 'TrydShelf.lean', which tools/lay-shelf.mjs wrote): THE SAME DECLARATIONS UNDER THE SAME NAMES: 'import', 'namespace', 'open', 'def', 'theorem' AND NOTHING ELSE: no command of the shelf's: FOR A HAND-IN. Each laying: the table of numbers ('.._ren') and one theorem, a field a fact of the dump's own or the kernel's comparison; each contract: ONE APPLICATION. -/
import Derived.Test.YtgfkjldohilmkaaDoorKCk3
import Derived.Shelf.Strconv.Itoa1
import Derived.Shelf.LaysM
import Derived.Shelf.Strconv.Itoa2
import Derived.Shelf.Strconv.Itoa3
import Derived.Shelf.LaysC
import Derived.Shelf.Strconv.ToError
import Derived.Shelf.Strconv.ToErrorRange
import Derived.Test.YtgfkjldohilmkaaDoorProg
import Derived.Lib.AppendIntMem
import Derived.Lib.SplitLaws
import Derived.Lib.TrimByte
import Derived.Lib.IndexBytes
import Derived.Lib.ItoaMem
namespace Go.Proofs
open Go.Shelf
def Tryd.lays317_ren : Go.Shelf.Ren := ⟨fun | 317 => 62 | n => n, fun | 3 => 3 | 46 => 138 | n => n, fun | n => n⟩
theorem Tryd.lays317 : Go.Proofs.Lays.n317 Tryd.prog Tryd.lays317_ren := {
  mixed := by kernel_rfl
  f317 := Tryd.func62.trans (congrArg some (by kernel_rfl))
  t3 := Tryd.underlying3
  a3 := Tryd.isAgg3
  z3 := Tryd.sizeOf3
  v3 := Tryd.zeroValue3
  t46 := Tryd.underlying138
  a46 := Tryd.isAgg138
  z46 := Tryd.sizeOf138
  v46 := Tryd.zeroValue138 }
open Go.Lib in
/-- internal/strconv.log10Pow2: "log10Pow2(x) returns ⌊log₁₀ 2**x⌋ = ⌊x * log₁₀ 2⌋.": '(x * 78913) >> 18', at an x up to 64 (a length in bits). The world is as it was. (LAID: no walk: one application.) -/
theorem Tryd.internal_strconv_log10Pow2 (x : Nat) (h : x ≤ 64) (w : World) :
    Calls Tryd.prog 62 #[.int .i64 x] w fun e w' => e = .returned (.int .i64 (Lib.l10 x)) ∧ w' = w := Any.internal_strconv_log10Pow2 Tryd.lays317 x h w
def Tryd.lays318_ren : Go.Shelf.Ren := ⟨fun | 318 => 64 | n => n, fun | 3 => 3 | 4 => 4 | n => n, fun | n => n⟩
theorem Tryd.lays318 : Go.Proofs.Lays.n318 Tryd.prog Tryd.lays318_ren := {
  mixed := by kernel_rfl
  f318 := Tryd.func64.trans (congrArg some (by kernel_rfl))
  t3 := Tryd.underlying3
  a3 := Tryd.isAgg3
  z3 := Tryd.sizeOf3
  v3 := Tryd.zeroValue3
  t4 := Tryd.underlying4
  a4 := Tryd.isAgg4
  z4 := Tryd.sizeOf4
  v4 := Tryd.zeroValue4 }
open Go.Lib in
/-- internal/strconv.bool2: "bool2 converts b to an integer: 1 for true, 0 for false." The world is as it was. (LAID: no walk: one application.) -/
theorem Tryd.internal_strconv_bool2_int (b : Bool) (w : World) :
    Calls Tryd.prog 64 #[.bool b] w fun e w' => e = .returned (.int .i64 (if b then 1 else 0)) ∧ w' = w := Any.internal_strconv_bool2_int Tryd.lays318 b w
def Tryd.lays283_ren : Go.Shelf.Ren := ⟨fun | 283 => 48 | n => n, fun | 3 => 3 | 9 => 9 | 4 => 4 | n => n, fun | n => n⟩
theorem Tryd.lays283 : Go.Proofs.Lays.n283 Tryd.prog Tryd.lays283_ren := {
  mixed := by kernel_rfl
  f283 := Tryd.func48.trans (congrArg some (by kernel_rfl))
  t3 := Tryd.underlying3
  a3 := Tryd.isAgg3
  z3 := Tryd.sizeOf3
  v3 := Tryd.zeroValue3
  t4 := Tryd.underlying4
  a4 := Tryd.isAgg4
  z4 := Tryd.sizeOf4
  v4 := Tryd.zeroValue4
  t9 := Tryd.underlying9
  a9 := Tryd.isAgg9
  z9 := Tryd.sizeOf9
  v9 := Tryd.zeroValue9 }
open Go.Lib in
/-- internal/strconv.small: "small returns the string for an i with 0 <= i < nSmalls.": i's decimal numeral. The world is as it was. (LAID: no walk: one application.) -/
theorem Tryd.internal_strconv_small (i : Nat) (h : i < 100) (w : World) :
    Calls Tryd.prog 48 #[.int .i64 i] w fun e w' => e = .returned (.string ⟨(Lib.decDigits i).toArray⟩) ∧ w' = w := Any.internal_strconv_small Tryd.lays283 i h w
def Tryd.laysM284_ren : Go.Shelf.Ren := ⟨fun | 284 => 49 | 129 => 63 | 317 => 62 | 318 => 64 | n => n, fun | 53 => 68 | 3 => 3 | 212 => 135 | 0 => 0 | 4 => 4 | 46 => 138 | 5 => 5 | 9 => 9 | n => n, fun | 17 => 1 | n => n⟩
theorem Tryd.laysM284 : Go.Proofs.LaysM.n284 Tryd.prog Tryd.laysM284_ren := {
  mixed := by kernel_rfl
  f129 := Tryd.func63.trans (congrArg some (by kernel_rfl))
  f284 := Tryd.func49.trans (congrArg some (by kernel_rfl))
  f317 := Tryd.func62.trans (congrArg some (by kernel_rfl))
  f318 := Tryd.func64.trans (congrArg some (by kernel_rfl))
  t0 := Tryd.underlying0
  a0 := Tryd.isAgg0
  z0 := Tryd.sizeOf0
  v0 := Tryd.zeroValue0
  t3 := Tryd.underlying3
  a3 := Tryd.isAgg3
  z3 := Tryd.sizeOf3
  v3 := Tryd.zeroValue3
  t4 := Tryd.underlying4
  a4 := Tryd.isAgg4
  z4 := Tryd.sizeOf4
  v4 := Tryd.zeroValue4
  t5 := Tryd.underlying5
  a5 := Tryd.isAgg5
  z5 := Tryd.sizeOf5
  v5 := Tryd.zeroValue5
  t9 := Tryd.underlying9
  a9 := Tryd.isAgg9
  z9 := Tryd.sizeOf9
  v9 := Tryd.zeroValue9
  t46 := Tryd.underlying138
  a46 := Tryd.isAgg138
  z46 := Tryd.sizeOf138
  v46 := Tryd.zeroValue138
  t53 := Tryd.underlying68
  a53 := Tryd.isAgg68
  z53 := Tryd.sizeOf68
  v53 := Tryd.zeroValue68
  t212 := Tryd.underlying135
  a212 := Tryd.isAgg135
  z212 := Tryd.sizeOf135
  v212 := Tryd.zeroValue135
  g17 := by kernel_rfl
  i0 := by kernel_rfl
  i3 := by kernel_rfl
  i4 := by kernel_rfl
  i5 := by kernel_rfl
  i9 := by kernel_rfl
  i46 := by kernel_rfl
  i53 := by kernel_rfl
  i212 := by kernel_rfl
  m17 := by kernel_rfl }
open Go.Lib in
/-- internal/strconv.numDigits, at a d that is not 0: THE NUMBER OF d's DECIMAL DIGITS. The world is as it was. (LAID: no walk: one application.) -/
theorem Tryd.internal_strconv_numDigits (u : Nat) (h1 : 1 ≤ u) (h2 : u < 18446744073709551616) (w : World) (htab : Lib.TabIs Tryd.prog w "internal/strconv.uint64pow10" .u64 Lib.pow10Tab) :
    Calls Tryd.prog 49 #[.int .u64 u] w fun e w' => e = .returned (.int .i64 (Lib.nDigits u)) ∧ w' = w := Any.internal_strconv_numDigits Tryd.laysM284 u h1 h2 w htab
def Tryd.lays285_ren : Go.Shelf.Ren := ⟨fun | 285 => 50 | n => n, fun | 37 => 55 | 53 => 68 | 3 => 3 | 4 => 4 | 51 => 33 | 9 => 9 | 5 => 5 | 0 => 0 | n => n, fun | n => n⟩
theorem Tryd.lays285 : Go.Proofs.Lays.n285 Tryd.prog Tryd.lays285_ren := {
  mixed := by kernel_rfl
  f285 := Tryd.func50.trans (congrArg some (by kernel_rfl))
  t0 := Tryd.underlying0
  a0 := Tryd.isAgg0
  z0 := Tryd.sizeOf0
  v0 := Tryd.zeroValue0
  t3 := Tryd.underlying3
  a3 := Tryd.isAgg3
  z3 := Tryd.sizeOf3
  v3 := Tryd.zeroValue3
  t4 := Tryd.underlying4
  a4 := Tryd.isAgg4
  z4 := Tryd.sizeOf4
  v4 := Tryd.zeroValue4
  t5 := Tryd.underlying5
  a5 := Tryd.isAgg5
  z5 := Tryd.sizeOf5
  v5 := Tryd.zeroValue5
  t9 := Tryd.underlying9
  a9 := Tryd.isAgg9
  z9 := Tryd.sizeOf9
  v9 := Tryd.zeroValue9
  t37 := Tryd.underlying55
  a37 := Tryd.isAgg55
  z37 := Tryd.sizeOf55
  v37 := Tryd.zeroValue55
  t51 := Tryd.underlying33
  a51 := Tryd.isAgg33
  z51 := Tryd.sizeOf33
  v51 := Tryd.zeroValue33
  t53 := Tryd.underlying68
  a53 := Tryd.isAgg68
  z53 := Tryd.sizeOf68
  v53 := Tryd.zeroValue68 }
open Go.RowKit Go.Sort Go.Lib in
/-- internal/strconv.formatBase10: "formatBase10 formats the decimal representation of u into a. The caller is responsible for ensuring that a is big enough to hold u. If a is too big, leading zeros will be filled in as needed.": THE ROW HOLDS u's DIGITS ('FmtInv .. 0 ..': every place t holds 'dg u (len - 1 - t)'); all else is as it was but for the count of draws. (LAID: no walk: one application.) -/
theorem Tryd.internal_strconv_formatBase10 (blk off cap : Nat) (u : Nat) (d : Array UInt8) (w : World) (hH : Holds (fun (b : UInt8) => Value.int .u8 (b.toNat : Int)) w blk off d) (hu : u < 10 ^ d.size) (hu64 : u < 18446744073709551616) (hsz : d.size < 4611686018427387904) :
    Calls Tryd.prog 50 #[.slice (some ⟨blk, off, none⟩) d.size cap, .int .u64 u] w fun e w' =>
      e = .returned (.tuple #[]) ∧ ∃ (n v' : Nat) (dk : Array UInt8), w' = (putRow (fun (b : UInt8) => Value.int .u8 (b.toNat : Int)) w blk off dk).drewN n ∧ FmtInv d.size u 0 v' dk := Any.internal_strconv_formatBase10 Tryd.lays285 blk off cap u d w hH hu hu64 hsz
def Tryd.laysM246_ren : Go.Shelf.Ren := ⟨fun | 246 => 37 | 283 => 48 | 284 => 49 | 285 => 50 | 286 => 51 | 129 => 63 | 317 => 62 | 318 => 64 | 319 => 65 | 320 => 66 | 337 => 70 | 338 => 71 | n => n, fun | 2 => 2 | 3 => 3 | 9 => 9 | 4 => 4 | 171 => 106 | 0 => 0 | 53 => 68 | 37 => 55 | 5 => 5 | 173 => 109 | 212 => 135 | 51 => 33 | 20 => 20 | 213 => 136 | 46 => 138 | 232 => 145 | 233 => 146 | n => n, fun | 17 => 1 | 18 => 2 | 19 => 3 | n => n⟩
theorem Tryd.laysM246 : Go.Proofs.LaysM.n246 Tryd.prog Tryd.laysM246_ren := {
  mixed := by kernel_rfl
  f129 := Tryd.func63.trans (congrArg some (by kernel_rfl))
  f246 := Tryd.func37.trans (congrArg some (by kernel_rfl))
  f283 := Tryd.func48.trans (congrArg some (by kernel_rfl))
  f284 := Tryd.func49.trans (congrArg some (by kernel_rfl))
  f285 := Tryd.func50.trans (congrArg some (by kernel_rfl))
  f286 := Tryd.func51.trans (congrArg some (by kernel_rfl))
  f317 := Tryd.func62.trans (congrArg some (by kernel_rfl))
  f318 := Tryd.func64.trans (congrArg some (by kernel_rfl))
  f319 := Tryd.func65.trans (congrArg some (by kernel_rfl))
  f320 := Tryd.func66.trans (congrArg some (by kernel_rfl))
  f337 := Tryd.func70.trans (congrArg some (by kernel_rfl))
  f338 := Tryd.func71.trans (congrArg some (by kernel_rfl))
  t0 := Tryd.underlying0
  a0 := Tryd.isAgg0
  z0 := Tryd.sizeOf0
  v0 := Tryd.zeroValue0
  t2 := Tryd.underlying2
  a2 := Tryd.isAgg2
  z2 := Tryd.sizeOf2
  v2 := Tryd.zeroValue2
  t3 := Tryd.underlying3
  a3 := Tryd.isAgg3
  z3 := Tryd.sizeOf3
  v3 := Tryd.zeroValue3
  t4 := Tryd.underlying4
  a4 := Tryd.isAgg4
  z4 := Tryd.sizeOf4
  v4 := Tryd.zeroValue4
  t5 := Tryd.underlying5
  a5 := Tryd.isAgg5
  z5 := Tryd.sizeOf5
  v5 := Tryd.zeroValue5
  t9 := Tryd.underlying9
  a9 := Tryd.isAgg9
  z9 := Tryd.sizeOf9
  v9 := Tryd.zeroValue9
  t20 := Tryd.underlying20
  a20 := Tryd.isAgg20
  z20 := Tryd.sizeOf20
  v20 := Tryd.zeroValue20
  t37 := Tryd.underlying55
  a37 := Tryd.isAgg55
  z37 := Tryd.sizeOf55
  v37 := Tryd.zeroValue55
  t46 := Tryd.underlying138
  a46 := Tryd.isAgg138
  z46 := Tryd.sizeOf138
  v46 := Tryd.zeroValue138
  t51 := Tryd.underlying33
  a51 := Tryd.isAgg33
  z51 := Tryd.sizeOf33
  v51 := Tryd.zeroValue33
  t53 := Tryd.underlying68
  a53 := Tryd.isAgg68
  z53 := Tryd.sizeOf68
  v53 := Tryd.zeroValue68
  t171 := Tryd.underlying106
  a171 := Tryd.isAgg106
  z171 := Tryd.sizeOf106
  v171 := Tryd.zeroValue106
  t173 := Tryd.underlying109
  a173 := Tryd.isAgg109
  z173 := Tryd.sizeOf109
  v173 := Tryd.zeroValue109
  t212 := Tryd.underlying135
  a212 := Tryd.isAgg135
  z212 := Tryd.sizeOf135
  v212 := Tryd.zeroValue135
  t213 := Tryd.underlying136
  a213 := Tryd.isAgg136
  z213 := Tryd.sizeOf136
  t232 := Tryd.underlying145
  a232 := Tryd.isAgg145
  z232 := Tryd.sizeOf145
  v232 := Tryd.zeroValue145
  t233 := Tryd.underlying146
  a233 := Tryd.isAgg146
  z233 := Tryd.sizeOf146
  v233 := Tryd.zeroValue146
  g17 := by kernel_rfl
  g18 := by kernel_rfl
  g19 := by kernel_rfl
  i0 := by kernel_rfl
  i2 := by kernel_rfl
  i3 := by kernel_rfl
  i4 := by kernel_rfl
  i5 := by kernel_rfl
  i9 := by kernel_rfl
  i20 := by kernel_rfl
  i37 := by kernel_rfl
  i46 := by kernel_rfl
  i51 := by kernel_rfl
  i53 := by kernel_rfl
  i171 := by kernel_rfl
  i173 := by kernel_rfl
  i212 := by kernel_rfl
  i232 := by kernel_rfl
  i233 := by kernel_rfl
  m17 := by kernel_rfl
  m18 := by kernel_rfl
  m19 := by kernel_rfl }
open Go.RowKit Go.Sort Go.Lib in
/-- internal/strconv.FormatInt: "FormatInt returns the string representation of i in the given base": AT BASE 10: i's decimal numeral, for every int64. The world behind the call: the world before it, new blocks behind the heap, draws. (LAID: no walk: one application.) -/
theorem Tryd.internal_strconv_FormatInt_10 (n : Int) (h0 : -9223372036854775808 ≤ n) (h1 : n ≤ 9223372036854775807) (w : World) (htab : Lib.TabIs Tryd.prog w "internal/strconv.uint64pow10" .u64 Lib.pow10Tab) :
    Calls Tryd.prog 37 #[.int .i64 n, .int .i64 10] w fun e w' => e = .returned (.string ⟨(Lib.itoa n).toArray⟩) ∧ ∃ k os, w' = grow (w.drewN k) os := Any.internal_strconv_FormatInt_10 Tryd.laysM246 n h0 h1 w htab
def Tryd.lays246_ren : Go.Shelf.Ren := ⟨fun | 246 => 37 | 283 => 48 | 284 => 49 | 285 => 50 | 286 => 51 | 129 => 63 | 317 => 62 | 318 => 64 | 319 => 65 | 320 => 66 | 337 => 70 | 338 => 71 | n => n, fun | 2 => 2 | 3 => 3 | 9 => 9 | 4 => 4 | 171 => 106 | 0 => 0 | 53 => 68 | 37 => 55 | 5 => 5 | 173 => 109 | 212 => 135 | 51 => 33 | 20 => 20 | 213 => 136 | 46 => 138 | 232 => 145 | 233 => 146 | n => n, fun | 17 => 1 | 18 => 2 | 19 => 3 | n => n⟩
theorem Tryd.lays246 : Go.Proofs.Lays.n246 Tryd.prog Tryd.lays246_ren := {
  mixed := by kernel_rfl
  f129 := Tryd.func63.trans (congrArg some (by kernel_rfl))
  f246 := Tryd.func37.trans (congrArg some (by kernel_rfl))
  f283 := Tryd.func48.trans (congrArg some (by kernel_rfl))
  f284 := Tryd.func49.trans (congrArg some (by kernel_rfl))
  f285 := Tryd.func50.trans (congrArg some (by kernel_rfl))
  f286 := Tryd.func51.trans (congrArg some (by kernel_rfl))
  f317 := Tryd.func62.trans (congrArg some (by kernel_rfl))
  f318 := Tryd.func64.trans (congrArg some (by kernel_rfl))
  f319 := Tryd.func65.trans (congrArg some (by kernel_rfl))
  f320 := Tryd.func66.trans (congrArg some (by kernel_rfl))
  f337 := Tryd.func70.trans (congrArg some (by kernel_rfl))
  f338 := Tryd.func71.trans (congrArg some (by kernel_rfl))
  t0 := Tryd.underlying0
  a0 := Tryd.isAgg0
  z0 := Tryd.sizeOf0
  v0 := Tryd.zeroValue0
  t2 := Tryd.underlying2
  a2 := Tryd.isAgg2
  z2 := Tryd.sizeOf2
  v2 := Tryd.zeroValue2
  t3 := Tryd.underlying3
  a3 := Tryd.isAgg3
  z3 := Tryd.sizeOf3
  v3 := Tryd.zeroValue3
  t4 := Tryd.underlying4
  a4 := Tryd.isAgg4
  z4 := Tryd.sizeOf4
  v4 := Tryd.zeroValue4
  t5 := Tryd.underlying5
  a5 := Tryd.isAgg5
  z5 := Tryd.sizeOf5
  v5 := Tryd.zeroValue5
  t9 := Tryd.underlying9
  a9 := Tryd.isAgg9
  z9 := Tryd.sizeOf9
  v9 := Tryd.zeroValue9
  t20 := Tryd.underlying20
  a20 := Tryd.isAgg20
  z20 := Tryd.sizeOf20
  v20 := Tryd.zeroValue20
  t37 := Tryd.underlying55
  a37 := Tryd.isAgg55
  z37 := Tryd.sizeOf55
  v37 := Tryd.zeroValue55
  t46 := Tryd.underlying138
  a46 := Tryd.isAgg138
  z46 := Tryd.sizeOf138
  v46 := Tryd.zeroValue138
  t51 := Tryd.underlying33
  a51 := Tryd.isAgg33
  z51 := Tryd.sizeOf33
  v51 := Tryd.zeroValue33
  t53 := Tryd.underlying68
  a53 := Tryd.isAgg68
  z53 := Tryd.sizeOf68
  v53 := Tryd.zeroValue68
  t171 := Tryd.underlying106
  a171 := Tryd.isAgg106
  z171 := Tryd.sizeOf106
  v171 := Tryd.zeroValue106
  t173 := Tryd.underlying109
  a173 := Tryd.isAgg109
  z173 := Tryd.sizeOf109
  v173 := Tryd.zeroValue109
  t212 := Tryd.underlying135
  a212 := Tryd.isAgg135
  z212 := Tryd.sizeOf135
  v212 := Tryd.zeroValue135
  t213 := Tryd.underlying136
  a213 := Tryd.isAgg136
  z213 := Tryd.sizeOf136
  t232 := Tryd.underlying145
  a232 := Tryd.isAgg145
  z232 := Tryd.sizeOf145
  v232 := Tryd.zeroValue145
  t233 := Tryd.underlying146
  a233 := Tryd.isAgg146
  z233 := Tryd.sizeOf146
  v233 := Tryd.zeroValue146
  g17 := by kernel_rfl
  g18 := by kernel_rfl
  g19 := by kernel_rfl }
open Go.RowKit Go.Sort Go.Lib in
/-- THE ROAD WITHOUT THE TABLE: 0 <= i < 100: two constants are read, nothing is laid: no premise on the world, and the world is as it was. (LAID: no walk: one application.) -/
theorem Tryd.internal_strconv_FormatInt_10_small (i : Nat) (hi : i < 100) (w : World) :
    Calls Tryd.prog 37 #[.int .i64 i, .int .i64 10] w fun e w' => e = .returned (.string ⟨(Lib.decDigits i).toArray⟩) ∧ w' = w := Any.internal_strconv_FormatInt_10_small Tryd.lays246 i hi w
def Tryd.laysM243_ren : Go.Shelf.Ren := ⟨fun | 243 => 38 | 246 => 37 | 283 => 48 | 284 => 49 | 285 => 50 | 286 => 51 | 129 => 63 | 317 => 62 | 318 => 64 | 319 => 65 | 320 => 66 | 337 => 70 | 338 => 71 | n => n, fun | 3 => 3 | 9 => 9 | 2 => 2 | 4 => 4 | 171 => 106 | 0 => 0 | 53 => 68 | 37 => 55 | 5 => 5 | 173 => 109 | 212 => 135 | 51 => 33 | 20 => 20 | 213 => 136 | 46 => 138 | 232 => 145 | 233 => 146 | n => n, fun | 17 => 1 | 18 => 2 | 19 => 3 | n => n⟩
theorem Tryd.laysM243 : Go.Proofs.LaysM.n243 Tryd.prog Tryd.laysM243_ren := {
  mixed := by kernel_rfl
  f129 := Tryd.func63.trans (congrArg some (by kernel_rfl))
  f243 := Tryd.func38.trans (congrArg some (by kernel_rfl))
  f246 := Tryd.func37.trans (congrArg some (by kernel_rfl))
  f283 := Tryd.func48.trans (congrArg some (by kernel_rfl))
  f284 := Tryd.func49.trans (congrArg some (by kernel_rfl))
  f285 := Tryd.func50.trans (congrArg some (by kernel_rfl))
  f286 := Tryd.func51.trans (congrArg some (by kernel_rfl))
  f317 := Tryd.func62.trans (congrArg some (by kernel_rfl))
  f318 := Tryd.func64.trans (congrArg some (by kernel_rfl))
  f319 := Tryd.func65.trans (congrArg some (by kernel_rfl))
  f320 := Tryd.func66.trans (congrArg some (by kernel_rfl))
  f337 := Tryd.func70.trans (congrArg some (by kernel_rfl))
  f338 := Tryd.func71.trans (congrArg some (by kernel_rfl))
  t0 := Tryd.underlying0
  a0 := Tryd.isAgg0
  z0 := Tryd.sizeOf0
  v0 := Tryd.zeroValue0
  t2 := Tryd.underlying2
  a2 := Tryd.isAgg2
  z2 := Tryd.sizeOf2
  v2 := Tryd.zeroValue2
  t3 := Tryd.underlying3
  a3 := Tryd.isAgg3
  z3 := Tryd.sizeOf3
  v3 := Tryd.zeroValue3
  t4 := Tryd.underlying4
  a4 := Tryd.isAgg4
  z4 := Tryd.sizeOf4
  v4 := Tryd.zeroValue4
  t5 := Tryd.underlying5
  a5 := Tryd.isAgg5
  z5 := Tryd.sizeOf5
  v5 := Tryd.zeroValue5
  t9 := Tryd.underlying9
  a9 := Tryd.isAgg9
  z9 := Tryd.sizeOf9
  v9 := Tryd.zeroValue9
  t20 := Tryd.underlying20
  a20 := Tryd.isAgg20
  z20 := Tryd.sizeOf20
  v20 := Tryd.zeroValue20
  t37 := Tryd.underlying55
  a37 := Tryd.isAgg55
  z37 := Tryd.sizeOf55
  v37 := Tryd.zeroValue55
  t46 := Tryd.underlying138
  a46 := Tryd.isAgg138
  z46 := Tryd.sizeOf138
  v46 := Tryd.zeroValue138
  t51 := Tryd.underlying33
  a51 := Tryd.isAgg33
  z51 := Tryd.sizeOf33
  v51 := Tryd.zeroValue33
  t53 := Tryd.underlying68
  a53 := Tryd.isAgg68
  z53 := Tryd.sizeOf68
  v53 := Tryd.zeroValue68
  t171 := Tryd.underlying106
  a171 := Tryd.isAgg106
  z171 := Tryd.sizeOf106
  v171 := Tryd.zeroValue106
  t173 := Tryd.underlying109
  a173 := Tryd.isAgg109
  z173 := Tryd.sizeOf109
  v173 := Tryd.zeroValue109
  t212 := Tryd.underlying135
  a212 := Tryd.isAgg135
  z212 := Tryd.sizeOf135
  v212 := Tryd.zeroValue135
  t213 := Tryd.underlying136
  a213 := Tryd.isAgg136
  z213 := Tryd.sizeOf136
  t232 := Tryd.underlying145
  a232 := Tryd.isAgg145
  z232 := Tryd.sizeOf145
  v232 := Tryd.zeroValue145
  t233 := Tryd.underlying146
  a233 := Tryd.isAgg146
  z233 := Tryd.sizeOf146
  v233 := Tryd.zeroValue146
  g17 := by kernel_rfl
  g18 := by kernel_rfl
  g19 := by kernel_rfl
  i0 := by kernel_rfl
  i2 := by kernel_rfl
  i3 := by kernel_rfl
  i4 := by kernel_rfl
  i5 := by kernel_rfl
  i9 := by kernel_rfl
  i20 := by kernel_rfl
  i37 := by kernel_rfl
  i46 := by kernel_rfl
  i51 := by kernel_rfl
  i53 := by kernel_rfl
  i171 := by kernel_rfl
  i173 := by kernel_rfl
  i212 := by kernel_rfl
  i232 := by kernel_rfl
  i233 := by kernel_rfl
  m17 := by kernel_rfl
  m18 := by kernel_rfl
  m19 := by kernel_rfl }
open Go.RowKit Go.Sort Go.Lib in
/-- internal/strconv.Itoa: "Itoa is equivalent to FormatInt(int64(i), 10).": i's decimal numeral, for every int. (LAID: no walk: one application.) -/
theorem Tryd.internal_strconv_Itoa (n : Int) (h0 : -9223372036854775808 ≤ n) (h1 : n ≤ 9223372036854775807) (w : World) (htab : Lib.TabIs Tryd.prog w "internal/strconv.uint64pow10" .u64 Lib.pow10Tab) :
    Calls Tryd.prog 38 #[.int .i64 n] w fun e w' => e = .returned (.string ⟨(Lib.itoa n).toArray⟩) ∧ ∃ k os, w' = grow (w.drewN k) os := Any.internal_strconv_Itoa Tryd.laysM243 n h0 h1 w htab
def Tryd.lays243_ren : Go.Shelf.Ren := ⟨fun | 243 => 38 | 246 => 37 | 283 => 48 | 284 => 49 | 285 => 50 | 286 => 51 | 129 => 63 | 317 => 62 | 318 => 64 | 319 => 65 | 320 => 66 | 337 => 70 | 338 => 71 | n => n, fun | 3 => 3 | 9 => 9 | 2 => 2 | 4 => 4 | 171 => 106 | 0 => 0 | 53 => 68 | 37 => 55 | 5 => 5 | 173 => 109 | 212 => 135 | 51 => 33 | 20 => 20 | 213 => 136 | 46 => 138 | 232 => 145 | 233 => 146 | n => n, fun | 17 => 1 | 18 => 2 | 19 => 3 | n => n⟩
theorem Tryd.lays243 : Go.Proofs.Lays.n243 Tryd.prog Tryd.lays243_ren := {
  mixed := by kernel_rfl
  f129 := Tryd.func63.trans (congrArg some (by kernel_rfl))
  f243 := Tryd.func38.trans (congrArg some (by kernel_rfl))
  f246 := Tryd.func37.trans (congrArg some (by kernel_rfl))
  f283 := Tryd.func48.trans (congrArg some (by kernel_rfl))
  f284 := Tryd.func49.trans (congrArg some (by kernel_rfl))
  f285 := Tryd.func50.trans (congrArg some (by kernel_rfl))
  f286 := Tryd.func51.trans (congrArg some (by kernel_rfl))
  f317 := Tryd.func62.trans (congrArg some (by kernel_rfl))
  f318 := Tryd.func64.trans (congrArg some (by kernel_rfl))
  f319 := Tryd.func65.trans (congrArg some (by kernel_rfl))
  f320 := Tryd.func66.trans (congrArg some (by kernel_rfl))
  f337 := Tryd.func70.trans (congrArg some (by kernel_rfl))
  f338 := Tryd.func71.trans (congrArg some (by kernel_rfl))
  t0 := Tryd.underlying0
  a0 := Tryd.isAgg0
  z0 := Tryd.sizeOf0
  v0 := Tryd.zeroValue0
  t2 := Tryd.underlying2
  a2 := Tryd.isAgg2
  z2 := Tryd.sizeOf2
  v2 := Tryd.zeroValue2
  t3 := Tryd.underlying3
  a3 := Tryd.isAgg3
  z3 := Tryd.sizeOf3
  v3 := Tryd.zeroValue3
  t4 := Tryd.underlying4
  a4 := Tryd.isAgg4
  z4 := Tryd.sizeOf4
  v4 := Tryd.zeroValue4
  t5 := Tryd.underlying5
  a5 := Tryd.isAgg5
  z5 := Tryd.sizeOf5
  v5 := Tryd.zeroValue5
  t9 := Tryd.underlying9
  a9 := Tryd.isAgg9
  z9 := Tryd.sizeOf9
  v9 := Tryd.zeroValue9
  t20 := Tryd.underlying20
  a20 := Tryd.isAgg20
  z20 := Tryd.sizeOf20
  v20 := Tryd.zeroValue20
  t37 := Tryd.underlying55
  a37 := Tryd.isAgg55
  z37 := Tryd.sizeOf55
  v37 := Tryd.zeroValue55
  t46 := Tryd.underlying138
  a46 := Tryd.isAgg138
  z46 := Tryd.sizeOf138
  v46 := Tryd.zeroValue138
  t51 := Tryd.underlying33
  a51 := Tryd.isAgg33
  z51 := Tryd.sizeOf33
  v51 := Tryd.zeroValue33
  t53 := Tryd.underlying68
  a53 := Tryd.isAgg68
  z53 := Tryd.sizeOf68
  v53 := Tryd.zeroValue68
  t171 := Tryd.underlying106
  a171 := Tryd.isAgg106
  z171 := Tryd.sizeOf106
  v171 := Tryd.zeroValue106
  t173 := Tryd.underlying109
  a173 := Tryd.isAgg109
  z173 := Tryd.sizeOf109
  v173 := Tryd.zeroValue109
  t212 := Tryd.underlying135
  a212 := Tryd.isAgg135
  z212 := Tryd.sizeOf135
  v212 := Tryd.zeroValue135
  t213 := Tryd.underlying136
  a213 := Tryd.isAgg136
  z213 := Tryd.sizeOf136
  t232 := Tryd.underlying145
  a232 := Tryd.isAgg145
  z232 := Tryd.sizeOf145
  v232 := Tryd.zeroValue145
  t233 := Tryd.underlying146
  a233 := Tryd.isAgg146
  z233 := Tryd.sizeOf146
  v233 := Tryd.zeroValue146
  g17 := by kernel_rfl
  g18 := by kernel_rfl
  g19 := by kernel_rfl }
open Go.RowKit Go.Sort Go.Lib in
/-- THE ROAD WITHOUT THE TABLE: 0 <= i < 100. (LAID: no walk: one application.) -/
theorem Tryd.internal_strconv_Itoa_small (i : Nat) (hi : i < 100) (w : World) :
    Calls Tryd.prog 38 #[.int .i64 i] w fun e w' => e = .returned (.string ⟨(Lib.decDigits i).toArray⟩) ∧ w' = w := Any.internal_strconv_Itoa_small Tryd.lays243 i hi w
def Tryd.laysM171_ren : Go.Shelf.Ren := ⟨fun | 171 => 26 | 243 => 38 | 246 => 37 | 283 => 48 | 284 => 49 | 285 => 50 | 286 => 51 | 129 => 63 | 317 => 62 | 318 => 64 | 319 => 65 | 320 => 66 | 337 => 70 | 338 => 71 | n => n, fun | 3 => 3 | 9 => 9 | 2 => 2 | 4 => 4 | 171 => 106 | 0 => 0 | 53 => 68 | 37 => 55 | 5 => 5 | 173 => 109 | 212 => 135 | 51 => 33 | 20 => 20 | 213 => 136 | 46 => 138 | 232 => 145 | 233 => 146 | n => n, fun | 17 => 1 | 18 => 2 | 19 => 3 | n => n⟩
theorem Tryd.laysM171 : Go.Proofs.LaysM.n171 Tryd.prog Tryd.laysM171_ren := {
  mixed := by kernel_rfl
  f129 := Tryd.func63.trans (congrArg some (by kernel_rfl))
  f171 := Tryd.func26.trans (congrArg some (by kernel_rfl))
  f243 := Tryd.func38.trans (congrArg some (by kernel_rfl))
  f246 := Tryd.func37.trans (congrArg some (by kernel_rfl))
  f283 := Tryd.func48.trans (congrArg some (by kernel_rfl))
  f284 := Tryd.func49.trans (congrArg some (by kernel_rfl))
  f285 := Tryd.func50.trans (congrArg some (by kernel_rfl))
  f286 := Tryd.func51.trans (congrArg some (by kernel_rfl))
  f317 := Tryd.func62.trans (congrArg some (by kernel_rfl))
  f318 := Tryd.func64.trans (congrArg some (by kernel_rfl))
  f319 := Tryd.func65.trans (congrArg some (by kernel_rfl))
  f320 := Tryd.func66.trans (congrArg some (by kernel_rfl))
  f337 := Tryd.func70.trans (congrArg some (by kernel_rfl))
  f338 := Tryd.func71.trans (congrArg some (by kernel_rfl))
  t0 := Tryd.underlying0
  a0 := Tryd.isAgg0
  z0 := Tryd.sizeOf0
  v0 := Tryd.zeroValue0
  t2 := Tryd.underlying2
  a2 := Tryd.isAgg2
  z2 := Tryd.sizeOf2
  v2 := Tryd.zeroValue2
  t3 := Tryd.underlying3
  a3 := Tryd.isAgg3
  z3 := Tryd.sizeOf3
  v3 := Tryd.zeroValue3
  t4 := Tryd.underlying4
  a4 := Tryd.isAgg4
  z4 := Tryd.sizeOf4
  v4 := Tryd.zeroValue4
  t5 := Tryd.underlying5
  a5 := Tryd.isAgg5
  z5 := Tryd.sizeOf5
  v5 := Tryd.zeroValue5
  t9 := Tryd.underlying9
  a9 := Tryd.isAgg9
  z9 := Tryd.sizeOf9
  v9 := Tryd.zeroValue9
  t20 := Tryd.underlying20
  a20 := Tryd.isAgg20
  z20 := Tryd.sizeOf20
  v20 := Tryd.zeroValue20
  t37 := Tryd.underlying55
  a37 := Tryd.isAgg55
  z37 := Tryd.sizeOf55
  v37 := Tryd.zeroValue55
  t46 := Tryd.underlying138
  a46 := Tryd.isAgg138
  z46 := Tryd.sizeOf138
  v46 := Tryd.zeroValue138
  t51 := Tryd.underlying33
  a51 := Tryd.isAgg33
  z51 := Tryd.sizeOf33
  v51 := Tryd.zeroValue33
  t53 := Tryd.underlying68
  a53 := Tryd.isAgg68
  z53 := Tryd.sizeOf68
  v53 := Tryd.zeroValue68
  t171 := Tryd.underlying106
  a171 := Tryd.isAgg106
  z171 := Tryd.sizeOf106
  v171 := Tryd.zeroValue106
  t173 := Tryd.underlying109
  a173 := Tryd.isAgg109
  z173 := Tryd.sizeOf109
  v173 := Tryd.zeroValue109
  t212 := Tryd.underlying135
  a212 := Tryd.isAgg135
  z212 := Tryd.sizeOf135
  v212 := Tryd.zeroValue135
  t213 := Tryd.underlying136
  a213 := Tryd.isAgg136
  z213 := Tryd.sizeOf136
  t232 := Tryd.underlying145
  a232 := Tryd.isAgg145
  z232 := Tryd.sizeOf145
  v232 := Tryd.zeroValue145
  t233 := Tryd.underlying146
  a233 := Tryd.isAgg146
  z233 := Tryd.sizeOf146
  v233 := Tryd.zeroValue146
  g17 := by kernel_rfl
  g18 := by kernel_rfl
  g19 := by kernel_rfl
  i0 := by kernel_rfl
  i2 := by kernel_rfl
  i3 := by kernel_rfl
  i4 := by kernel_rfl
  i5 := by kernel_rfl
  i9 := by kernel_rfl
  i20 := by kernel_rfl
  i37 := by kernel_rfl
  i46 := by kernel_rfl
  i51 := by kernel_rfl
  i53 := by kernel_rfl
  i171 := by kernel_rfl
  i173 := by kernel_rfl
  i212 := by kernel_rfl
  i232 := by kernel_rfl
  i233 := by kernel_rfl
  m17 := by kernel_rfl
  m18 := by kernel_rfl
  m19 := by kernel_rfl }
open Go.RowKit Go.Sort Go.Lib in
/-- strconv.Itoa: "Itoa is equivalent to FormatInt(int64(i), 10).": i's DECIMAL NUMERAL ('Lib.itoa': a '-' where i is negative, then the digits), FOR EVERY int. The world behind the call: the world before it, new blocks behind the heap (the library's 'var a [24]byte'), draws. (LAID: no walk: one application.) -/
theorem Tryd.strconv_Itoa (n : Int) (h0 : -9223372036854775808 ≤ n) (h1 : n ≤ 9223372036854775807) (w : World) (htab : Lib.TabIs Tryd.prog w "internal/strconv.uint64pow10" .u64 Lib.pow10Tab) :
    Calls Tryd.prog 26 #[.int .i64 n] w fun e w' => e = .returned (.string ⟨(Lib.itoa n).toArray⟩) ∧ ∃ k os, w' = grow (w.drewN k) os := Any.strconv_Itoa Tryd.laysM171 n h0 h1 w htab
def Tryd.lays171_ren : Go.Shelf.Ren := ⟨fun | 171 => 26 | 243 => 38 | 246 => 37 | 283 => 48 | 284 => 49 | 285 => 50 | 286 => 51 | 129 => 63 | 317 => 62 | 318 => 64 | 319 => 65 | 320 => 66 | 337 => 70 | 338 => 71 | n => n, fun | 3 => 3 | 9 => 9 | 2 => 2 | 4 => 4 | 171 => 106 | 0 => 0 | 53 => 68 | 37 => 55 | 5 => 5 | 173 => 109 | 212 => 135 | 51 => 33 | 20 => 20 | 213 => 136 | 46 => 138 | 232 => 145 | 233 => 146 | n => n, fun | 17 => 1 | 18 => 2 | 19 => 3 | n => n⟩
theorem Tryd.lays171 : Go.Proofs.Lays.n171 Tryd.prog Tryd.lays171_ren := {
  mixed := by kernel_rfl
  f129 := Tryd.func63.trans (congrArg some (by kernel_rfl))
  f171 := Tryd.func26.trans (congrArg some (by kernel_rfl))
  f243 := Tryd.func38.trans (congrArg some (by kernel_rfl))
  f246 := Tryd.func37.trans (congrArg some (by kernel_rfl))
  f283 := Tryd.func48.trans (congrArg some (by kernel_rfl))
  f284 := Tryd.func49.trans (congrArg some (by kernel_rfl))
  f285 := Tryd.func50.trans (congrArg some (by kernel_rfl))
  f286 := Tryd.func51.trans (congrArg some (by kernel_rfl))
  f317 := Tryd.func62.trans (congrArg some (by kernel_rfl))
  f318 := Tryd.func64.trans (congrArg some (by kernel_rfl))
  f319 := Tryd.func65.trans (congrArg some (by kernel_rfl))
  f320 := Tryd.func66.trans (congrArg some (by kernel_rfl))
  f337 := Tryd.func70.trans (congrArg some (by kernel_rfl))
  f338 := Tryd.func71.trans (congrArg some (by kernel_rfl))
  t0 := Tryd.underlying0
  a0 := Tryd.isAgg0
  z0 := Tryd.sizeOf0
  v0 := Tryd.zeroValue0
  t2 := Tryd.underlying2
  a2 := Tryd.isAgg2
  z2 := Tryd.sizeOf2
  v2 := Tryd.zeroValue2
  t3 := Tryd.underlying3
  a3 := Tryd.isAgg3
  z3 := Tryd.sizeOf3
  v3 := Tryd.zeroValue3
  t4 := Tryd.underlying4
  a4 := Tryd.isAgg4
  z4 := Tryd.sizeOf4
  v4 := Tryd.zeroValue4
  t5 := Tryd.underlying5
  a5 := Tryd.isAgg5
  z5 := Tryd.sizeOf5
  v5 := Tryd.zeroValue5
  t9 := Tryd.underlying9
  a9 := Tryd.isAgg9
  z9 := Tryd.sizeOf9
  v9 := Tryd.zeroValue9
  t20 := Tryd.underlying20
  a20 := Tryd.isAgg20
  z20 := Tryd.sizeOf20
  v20 := Tryd.zeroValue20
  t37 := Tryd.underlying55
  a37 := Tryd.isAgg55
  z37 := Tryd.sizeOf55
  v37 := Tryd.zeroValue55
  t46 := Tryd.underlying138
  a46 := Tryd.isAgg138
  z46 := Tryd.sizeOf138
  v46 := Tryd.zeroValue138
  t51 := Tryd.underlying33
  a51 := Tryd.isAgg33
  z51 := Tryd.sizeOf33
  v51 := Tryd.zeroValue33
  t53 := Tryd.underlying68
  a53 := Tryd.isAgg68
  z53 := Tryd.sizeOf68
  v53 := Tryd.zeroValue68
  t171 := Tryd.underlying106
  a171 := Tryd.isAgg106
  z171 := Tryd.sizeOf106
  v171 := Tryd.zeroValue106
  t173 := Tryd.underlying109
  a173 := Tryd.isAgg109
  z173 := Tryd.sizeOf109
  v173 := Tryd.zeroValue109
  t212 := Tryd.underlying135
  a212 := Tryd.isAgg135
  z212 := Tryd.sizeOf135
  v212 := Tryd.zeroValue135
  t213 := Tryd.underlying136
  a213 := Tryd.isAgg136
  z213 := Tryd.sizeOf136
  t232 := Tryd.underlying145
  a232 := Tryd.isAgg145
  z232 := Tryd.sizeOf145
  v232 := Tryd.zeroValue145
  t233 := Tryd.underlying146
  a233 := Tryd.isAgg146
  z233 := Tryd.sizeOf146
  v233 := Tryd.zeroValue146
  g17 := by kernel_rfl
  g18 := by kernel_rfl
  g19 := by kernel_rfl }
open Go.RowKit Go.Sort Go.Lib in
/-- THE ROAD WITHOUT THE TABLE: 0 <= i < 100: NO PREMISE ON THE WORLD, AND THE WORLD IS AS IT WAS: a row that keeps its argument in that range need list no table ('laid = []'). (LAID: no walk: one application.) -/
theorem Tryd.strconv_Itoa_small (i : Nat) (hi : i < 100) (w : World) :
    Calls Tryd.prog 26 #[.int .i64 i] w fun e w' => e = .returned (.string ⟨(Lib.decDigits i).toArray⟩) ∧ w' = w := Any.strconv_Itoa_small Tryd.lays171 i hi w
def Tryd.laysC245_ren : Go.Shelf.Ren := ⟨fun | 245 => 74 | 279 => 78 | 280 => 79 | 281 => 80 | 282 => 81 | 316 => 82 | 171 => 26 | 205 => 83 | 243 => 38 | 246 => 37 | 283 => 48 | 284 => 49 | 285 => 50 | 286 => 51 | 129 => 63 | 317 => 62 | 318 => 64 | 319 => 65 | 320 => 66 | 337 => 70 | 338 => 71 | n => n, fun | 9 => 9 | 3 => 3 | 75 => 28 | 167 => 147 | 4 => 4 | 168 => 149 | 210 => 154 | 37 => 55 | 0 => 0 | 127 => 88 | 145 => 158 | 143 => 156 | 2 => 2 | 171 => 106 | 53 => 68 | 5 => 5 | 173 => 109 | 212 => 135 | 51 => 33 | 20 => 20 | 213 => 136 | 46 => 138 | 232 => 145 | 233 => 146 | 80 => 69 | n => n, fun | 15 => 5 | 16 => 6 | 17 => 1 | 18 => 2 | 19 => 3 | n => n⟩
theorem Tryd.laysC245 : Go.Proofs.LaysC.n245 Tryd.prog Tryd.laysC245_ren := {
  mixed := by kernel_rfl
  f129 := Tryd.func63.trans (congrArg some (by kernel_rfl))
  f171 := Tryd.func26.trans (congrArg some (by kernel_rfl))
  f205 := Tryd.func83.trans (congrArg some (by kernel_rfl))
  f243 := Tryd.func38.trans (congrArg some (by kernel_rfl))
  f245 := Tryd.func74.trans (congrArg some (by kernel_rfl))
  f246 := Tryd.func37.trans (congrArg some (by kernel_rfl))
  f279 := Tryd.func78.trans (congrArg some (by kernel_rfl))
  f280 := Tryd.func79.trans (congrArg some (by kernel_rfl))
  f281 := Tryd.func80.trans (congrArg some (by kernel_rfl))
  f282 := Tryd.func81.trans (congrArg some (by kernel_rfl))
  f283 := Tryd.func48.trans (congrArg some (by kernel_rfl))
  f284 := Tryd.func49.trans (congrArg some (by kernel_rfl))
  f285 := Tryd.func50.trans (congrArg some (by kernel_rfl))
  f286 := Tryd.func51.trans (congrArg some (by kernel_rfl))
  f316 := Tryd.func82.trans (congrArg some (by kernel_rfl))
  f317 := Tryd.func62.trans (congrArg some (by kernel_rfl))
  f318 := Tryd.func64.trans (congrArg some (by kernel_rfl))
  f319 := Tryd.func65.trans (congrArg some (by kernel_rfl))
  f320 := Tryd.func66.trans (congrArg some (by kernel_rfl))
  f337 := Tryd.func70.trans (congrArg some (by kernel_rfl))
  f338 := Tryd.func71.trans (congrArg some (by kernel_rfl))
  t0 := Tryd.underlying0
  a0 := Tryd.isAgg0
  z0 := Tryd.sizeOf0
  v0 := Tryd.zeroValue0
  t2 := Tryd.underlying2
  a2 := Tryd.isAgg2
  z2 := Tryd.sizeOf2
  v2 := Tryd.zeroValue2
  t3 := Tryd.underlying3
  a3 := Tryd.isAgg3
  z3 := Tryd.sizeOf3
  v3 := Tryd.zeroValue3
  t4 := Tryd.underlying4
  a4 := Tryd.isAgg4
  z4 := Tryd.sizeOf4
  v4 := Tryd.zeroValue4
  t5 := Tryd.underlying5
  a5 := Tryd.isAgg5
  z5 := Tryd.sizeOf5
  v5 := Tryd.zeroValue5
  t9 := Tryd.underlying9
  a9 := Tryd.isAgg9
  z9 := Tryd.sizeOf9
  v9 := Tryd.zeroValue9
  t20 := Tryd.underlying20
  a20 := Tryd.isAgg20
  z20 := Tryd.sizeOf20
  v20 := Tryd.zeroValue20
  t37 := Tryd.underlying55
  a37 := Tryd.isAgg55
  z37 := Tryd.sizeOf55
  v37 := Tryd.zeroValue55
  t46 := Tryd.underlying138
  a46 := Tryd.isAgg138
  z46 := Tryd.sizeOf138
  v46 := Tryd.zeroValue138
  t51 := Tryd.underlying33
  a51 := Tryd.isAgg33
  z51 := Tryd.sizeOf33
  v51 := Tryd.zeroValue33
  t53 := Tryd.underlying68
  a53 := Tryd.isAgg68
  z53 := Tryd.sizeOf68
  v53 := Tryd.zeroValue68
  t75 := Tryd.underlying28
  a75 := Tryd.isAgg28
  z75 := Tryd.sizeOf28
  v75 := Tryd.zeroValue28
  t127 := Tryd.underlying88
  a127 := Tryd.isAgg88
  z127 := Tryd.sizeOf88
  v127 := Tryd.zeroValue88
  t143 := Tryd.underlying156
  a143 := Tryd.isAgg156
  z143 := Tryd.sizeOf156
  v143 := Tryd.zeroValue156
  t145 := Tryd.underlying158
  a145 := Tryd.isAgg158
  z145 := Tryd.sizeOf158
  v145 := Tryd.zeroValue158
  t167 := Tryd.underlying147
  a167 := Tryd.isAgg147
  z167 := Tryd.sizeOf147
  v167 := Tryd.zeroValue147
  t168 := Tryd.underlying149
  a168 := Tryd.isAgg149
  z168 := Tryd.sizeOf149
  v168 := Tryd.zeroValue149
  t171 := Tryd.underlying106
  a171 := Tryd.isAgg106
  z171 := Tryd.sizeOf106
  v171 := Tryd.zeroValue106
  t173 := Tryd.underlying109
  a173 := Tryd.isAgg109
  z173 := Tryd.sizeOf109
  v173 := Tryd.zeroValue109
  t210 := Tryd.underlying154
  a210 := Tryd.isAgg154
  z210 := Tryd.sizeOf154
  v210 := Tryd.zeroValue154
  t212 := Tryd.underlying135
  a212 := Tryd.isAgg135
  z212 := Tryd.sizeOf135
  v212 := Tryd.zeroValue135
  t213 := Tryd.underlying136
  a213 := Tryd.isAgg136
  z213 := Tryd.sizeOf136
  t232 := Tryd.underlying145
  a232 := Tryd.isAgg145
  z232 := Tryd.sizeOf145
  v232 := Tryd.zeroValue145
  t233 := Tryd.underlying146
  a233 := Tryd.isAgg146
  z233 := Tryd.sizeOf146
  v233 := Tryd.zeroValue146
  g15 := by kernel_rfl
  g16 := by kernel_rfl
  g17 := by kernel_rfl
  g18 := by kernel_rfl
  g19 := by kernel_rfl
  t80 := Tryd.underlying69
  a80 := Tryd.isAgg69
  z80 := Tryd.sizeOf69
  v80 := Tryd.zeroValue69
  i0 := by kernel_rfl
  i2 := by kernel_rfl
  i3 := by kernel_rfl
  i4 := by kernel_rfl
  i5 := by kernel_rfl
  i9 := by kernel_rfl
  i20 := by kernel_rfl
  i37 := by kernel_rfl
  i46 := by kernel_rfl
  i51 := by kernel_rfl
  i53 := by kernel_rfl
  i75 := by kernel_rfl
  i80 := by kernel_rfl
  i127 := by kernel_rfl
  i143 := by kernel_rfl
  i145 := by kernel_rfl
  i167 := by kernel_rfl
  i168 := by kernel_rfl
  i171 := by kernel_rfl
  i173 := by kernel_rfl
  i210 := by kernel_rfl
  i212 := by kernel_rfl
  i232 := by kernel_rfl
  i233 := by kernel_rfl
  m15 := by kernel_rfl
  m16 := by kernel_rfl
  m17 := by kernel_rfl
  m18 := by kernel_rfl
  m19 := by kernel_rfl
  c0 := by kernel_rfl
  c2 := by kernel_rfl
  c3 := by kernel_rfl
  c4 := by kernel_rfl
  c5 := by kernel_rfl
  c9 := by kernel_rfl
  c20 := by kernel_rfl
  c37 := by kernel_rfl
  c46 := by kernel_rfl
  c51 := by kernel_rfl
  c53 := by kernel_rfl
  c75 := by kernel_rfl
  c80 := by kernel_rfl
  c127 := by kernel_rfl
  c143 := by kernel_rfl
  c145 := by kernel_rfl
  c167 := by kernel_rfl
  c168 := by kernel_rfl
  c171 := by kernel_rfl
  c173 := by kernel_rfl
  c210 := by kernel_rfl
  c212 := by kernel_rfl
  c213 := by kernel_rfl
  c232 := by kernel_rfl
  c233 := by kernel_rfl }
open Go.RowKit in
/-- strconv.toError, at the inner package's ErrSyntax: 'syntaxError(fn, s)' as an error: A *NumError IN A NEW BLOCK. (LAID: no walk: one application.) -/
theorem Tryd.strconv_toError_syntax (fn s : ByteArray) (base bits : Int) (ev : Value) (w : World) (hlim : s.size ≤ 281474976710656) (hv : w.cell? ⟨5, 0, none⟩ = some ev) (hev : ev = .nilIface ∨ ∃ te pe, ev = .iface te pe) :
    Calls Tryd.prog 74 #[.string fn, .string s, .int .i64 base, .int .i64 bits, .iface 147 (.int .i64 2)] w fun e w' => ∃ N, e = .returned (.iface 149 (.pointer (some ⟨N, 0, none⟩))) ∧ w.heap.size ≤ N ∧ w'.heap[N]? = some (.cells #[.string fn, .string s, ev] 154 (0, 0)) ∧ Below w.heap.size w w' := Any.strconv_toError_syntax Tryd.laysC245 fn s base bits ev w hlim hv hev
open Go.RowKit in
/-- strconv.toError, at the inner package's ErrRange: 'rangeError(fn, s)' as an error: A *NumError IN A NEW BLOCK. (LAID: no walk: one application.) -/
theorem Tryd.strconv_toError_range (fn s : ByteArray) (base bits : Int) (ev : Value) (w : World) (hlim : s.size ≤ 281474976710656) (hv : w.cell? ⟨6, 0, none⟩ = some ev) (hev : ev = .nilIface ∨ ∃ te pe, ev = .iface te pe) :
    Calls Tryd.prog 74 #[.string fn, .string s, .int .i64 base, .int .i64 bits, .iface 147 (.int .i64 1)] w fun e w' => ∃ N, e = .returned (.iface 149 (.pointer (some ⟨N, 0, none⟩))) ∧ w.heap.size ≤ N ∧ w'.heap[N]? = some (.cells #[.string fn, .string s, ev] 154 (0, 0)) ∧ Below w.heap.size w w' := Any.strconv_toError_range Tryd.laysC245 fn s base bits ev w hlim hv hev
end Go.Proofs

set_option linter.unusedVariables false
set_option linter.unusedSimpArgs false
namespace Go.Proofs.YtgfkjldohilmkaaDoor.Ab
open Go Go.RowKit
set_option maxHeartbeats 4000000
set_option maxRecDepth 100000

/-- The table of powers of ten lies in the world. -/
abbrev Ten (w : World) : Prop := Lib.TabIs Tryd.prog w "internal/strconv.uint64pow10" .u64 Lib.pow10Tab
theorem tab_at {P : Program} {w0 w : World} {G : Loc} {m : Mem} {name : String} {k : IntKind} {zs : List Int} (h : Lib.TabIs P w0 name k zs) (hs : St P w0 G m w) : Lib.TabIs P w name k zs := by
  unfold Lib.TabIs World.var? at h ⊢
  cases hg : P.globalNamed name with
  | none => rw [hg] at h; simp at h
  | some g =>
    rw [hg] at h
    simp only [Option.bind_some] at h ⊢
    have hlt : g < w0.heap.size := by
      rcases Nat.lt_or_ge g w0.heap.size with h' | h'
      · exact h'
      · rw [Array.getElem?_eq_none h'] at h; cases h
    rw [hs.below.block g hlt]; exact h

theorem tab_mem {P : Program} {W : World} {l : List (String × DataW Unit)} {name : String} {k : IntKind} {zs : List Int} {g : Nat} {t e : TypeId} {n : Nat} (h : laidMet P l W) (hm : (name, Lib.tabData k zs) ∈ l)
    (hg : P.globalNamed name = some g) (hty : (P.globals[g]?).map (·.type) = some t) (ht : P.underlying t = some (.array n e)) (he : P.underlying e = some (.int k)) (hce : P.cellsOf e = 1) (hct : P.cellsOf t = n) : Lib.TabIs P W name k zs := by
  obtain ⟨ps, hv, _⟩ := h
  obtain ⟨g', t', cs, fuel, p, h1, h2, h3, h4⟩ := laid_mem hv hm
  obtain rfl := Option.some.inj (hg.symm.trans h1)
  obtain rfl := Option.some.inj (hty.symm.trans h2)
  have hcs := Lib.cells_of_tab ht he hce hct h4
  unfold Lib.TabIs
  rw [h3]
  congr 1
  exact Array.ext' (by simpa using hcs)
theorem ten_of {W : World} {l : List (String × DataW Unit)} (h : laidMet Tryd.prog l W) (hm : ("internal/strconv.uint64pow10", Lib.tabData .u64 z10) ∈ l) : Ten W := by
  have e : Lib.pow10Tab = z10 := by kernel_rfl
  unfold Ten
  rw [e]
  exact tab_mem (g := 1) h hm (by kernel_rfl) (by kernel_rfl) Tryd.underlying135 Tryd.underlying68 (by kernel_rfl) (by kernel_rfl)

/-- A contract of plain values that only grows the world. -/
theorem c_calls {P : Program} {w0 : World} {m : Mem} {f : FuncId} {args : List Value} {v : Value} {Q : Value → Mem → Prop} (hcall : callOk P f = true) (ha : args.all (plainV 6) = true) (hv : plainV 6 v = true)
    (h : ∀ (G : Loc) (w : World), St P w0 G m w → Calls P f args.toArray w fun e w' => e = .returned v ∧ Below w.heap.size w w') (hq : Q v m) : AbC P w0 f args m Q := by
  intro G w args' hs hargs
  have ha' : ∀ u ∈ args, plainV 6 u = true := by simpa [List.all_eq_true] using ha
  have he : args' = args := VRs.plain_eq hargs fun u hu u' hr => VR.plain_eq 6 u u' (ha' u hu) hr
  subst he
  rw [run_callFunc_enter hcall]
  show Calls _ _ _ _ _
  refine (h G w hs).mono ?_
  rintro e w' ⟨rfl, hb⟩
  exact ⟨v, rfl, G, v, m, Loc.le_refl G, VR.plain 6 v hv, hs.grown hb, hq⟩

/-- A number as a text. -/
def numS (B : Nat) (i : Int) : List UInt8 := sgn (decide (i < 0)) ++ digs B i.natAbs
theorem dec_digs : ∀ u, Lib.decDigits u = digs 10 u := by
  intro u
  induction u using Nat.strongRecOn with
  | _ u ih =>
    rw [Lib.decDigits]
    split
    · rename_i h
      rw [digs_lt h]; simp [digC, h]
    · rename_i h
      rw [digs_ge (by omega) (by omega), ih (u / 10) (by omega)]
      simp [digC, Nat.mod_lt]
theorem itoa_numS (n : Int) : Lib.itoa n = numS 10 n := by
  unfold Lib.itoa numS sgn
  by_cases h : n < 0
  · simp [h, dec_digs]
  · have : n.toNat = n.natAbs := by omega
    simp [h, dec_digs, this]

theorem c_fmt10 {w0 : World} {m : Mem} {n : Int} {Q : Value → Mem → Prop} (ht : Ten w0) (hn : -9223372036854775808 ≤ n ∧ n ≤ 9223372036854775807) (hq : Q (.string ⟨⟨numS 10 n⟩⟩) m) :
    AbC Tryd.prog w0 37 [.int .i64 n, .int .i64 10] m Q := by
  refine c_calls (v := .string ⟨⟨numS 10 n⟩⟩) (by kernel_rfl) rfl rfl (fun G w hs => ?_) hq
  refine (Tryd.internal_strconv_FormatInt_10 n hn.1 hn.2 w (tab_at ht hs)).mono ?_
  rintro e w' ⟨rfl, k, os, rfl⟩
  exact ⟨by rw [itoa_numS], Lib.below_grow _ w (Nat.le_refl _) k os⟩

theorem c_fmtP {w0 : World} {m : Mem} {B k : Nat} {i : Int} {Q : Value → Mem → Prop} (hp : Part L0 m) (hB : B = 2 ^ k) (hk : 3 ≤ k ∧ k ≤ 5) (h10 : B ≠ 10) (hi : -9223372036854775808 ≤ i ∧ i ≤ 9223372036854775807)
    (h1 : outIs (.bool true) (callE tab (xCall xs) Tryd.prog 50 65 [.int .i64 (B : Int)] L0) = true)
    (h2 : outIs (.int .i64 (k : Int)) (callE tab (xCall xs) Tryd.prog 50 66 [.int .u64 (B : Int)] L0) = true)
    (hq : ∀ m', Old m m' → Q (.string ⟨⟨numS B i⟩⟩) m') : AbC Tryd.prog w0 37 [.int .i64 i, .int .i64 (B : Int)] m Q := by
  refine AbC_fn ok37 (by simp) ?_
  have f2 : (B : Int) ≠ 10 := by omega
  simp -implicitDefEqProofs (disch := first | assumption | (simp only [wnA]; done) | (simp only [wnA]; omega) | omega | fail) [rc37, ro37, wkA, retV, stabOk, dC, ev, fillD, pickCells, putAt, bnd, slD, List.getElem?_cons_zero, List.getElem?_cons_succ, dR.eq_20, Mem.cell, Mem.row, wmA, beqF f2, rc37_3]
  refine c_fmtBits (k := k) (a := i.natAbs) hp hB hk h10 (by omega) ?_ h1 h2 fun m' ho => ?_
  · by_cases hn : i < 0
    · simp only [hn, decide_true, if_true]
      congr 1; omega
    · simp only [hn, decide_false, Bool.false_eq_true, if_false]
      rw [IntWalk.u64_in _ (by omega)]; omega
  · simp -implicitDefEqProofs (disch := first | assumption | (simp only [wnA]; done) | (simp only [wnA]; omega) | omega | fail) [wkA, retV, stabOk, dC, ev, fillD, pickCells, putAt, bnd, slD, List.getElem?_cons_zero, List.getElem?_cons_succ, dR.eq_20, Mem.cell, Mem.row, wmA]
    exact hq m' ho

theorem pow8 : outIs (.bool true) (callE tab (xCall xs) Tryd.prog 50 65 [.int .i64 ((8 : Nat) : Int)] L0) = true := by kernel_rfl
theorem tz8 : outIs (.int .i64 ((3 : Nat) : Int)) (callE tab (xCall xs) Tryd.prog 50 66 [.int .u64 ((8 : Nat) : Int)] L0) = true := by kernel_rfl
theorem pow16 : outIs (.bool true) (callE tab (xCall xs) Tryd.prog 50 65 [.int .i64 ((16 : Nat) : Int)] L0) = true := by kernel_rfl
theorem tz16 : outIs (.int .i64 ((4 : Nat) : Int)) (callE tab (xCall xs) Tryd.prog 50 66 [.int .u64 ((16 : Nat) : Int)] L0) = true := by kernel_rfl

/-- strconv.FormatInt at 8, 10, 16. -/
theorem c_FormatInt {w0 : World} {m : Mem} {B : Nat} {i : Int} {Q : Value → Mem → Prop} (hp : Part L0 m) (ht : Ten w0) (hB : B = 8 ∨ B = 10 ∨ B = 16) (hi : -9223372036854775808 ≤ i ∧ i ≤ 9223372036854775807)
    (hq : ∀ m', Old m m' → Q (.string ⟨⟨numS B i⟩⟩) m') : AbC Tryd.prog w0 25 [.int .i64 i, .int .i64 (B : Int)] m Q := by
  refine AbC_fn ok25 (by simp) ?_
  simp -implicitDefEqProofs (disch := first | assumption | (simp only [wnA]; done) | (simp only [wnA]; omega) | omega | fail) [rc25, ro25, wkA, retV, stabOk, dC, ev, fillD, pickCells, putAt, bnd, slD, List.getElem?_cons_zero, List.getElem?_cons_succ, dR.eq_20, Mem.cell, Mem.row, wmA]
  have key : AbC Tryd.prog w0 37 [.int .i64 i, .int .i64 (B : Int)] m fun v m' => v = .string ⟨⟨numS B i⟩⟩ ∧ Old m m' := by
    rcases hB with rfl | rfl | rfl
    · exact c_fmtP hp (k := 3) rfl (by omega) (by omega) hi pow8 tz8 fun m' ho => ⟨rfl, ho⟩
    · exact c_fmt10 ht hi ⟨rfl, Old.refl m⟩
    · exact c_fmtP hp (k := 4) rfl (by omega) (by omega) hi pow16 tz16 fun m' ho => ⟨rfl, ho⟩
  refine key.mono ?_
  rintro v m' ⟨rfl, ho⟩
  simp -implicitDefEqProofs (disch := first | assumption | (simp only [wnA]; done) | (simp only [wnA]; omega) | omega | fail) [wkA, retV, stabOk, dC, ev, fillD, pickCells, putAt, bnd, slD, List.getElem?_cons_zero, List.getElem?_cons_succ, dR.eq_20, Mem.cell, Mem.row, wmA]
  exact hq m' ho
theorem c_Itoa {w0 : World} {m : Mem} {i : Int} {Q : Value → Mem → Prop} (ht : Ten w0) (hi : -9223372036854775808 ≤ i ∧ i ≤ 9223372036854775807) (hq : Q (.string ⟨⟨numS 10 i⟩⟩) m) : AbC Tryd.prog w0 26 [.int .i64 i] m Q := by
  refine AbC_fn ok26 (by simp) ?_
  simp -implicitDefEqProofs (disch := first | assumption | (simp only [wnA]; done) | (simp only [wnA]; omega) | omega | fail) [rc26, ro26, wkA, retV, stabOk, dC, ev, fillD, pickCells, putAt, bnd, slD, List.getElem?_cons_zero, List.getElem?_cons_succ, dR.eq_20, Mem.cell, Mem.row, wmA]
  refine AbC_fn ok38 (by simp) ?_
  simp -implicitDefEqProofs (disch := first | assumption | (simp only [wnA]; done) | (simp only [wnA]; omega) | omega | fail) [rc38, ro38, wkA, retV, stabOk, dC, ev, fillD, pickCells, putAt, bnd, slD, List.getElem?_cons_zero, List.getElem?_cons_succ, dR.eq_20, Mem.cell, Mem.row, wmA]
  refine c_fmt10 ht hi ?_
  simp -implicitDefEqProofs (disch := first | assumption | (simp only [wnA]; done) | (simp only [wnA]; omega) | omega | fail) [wkA, retV, stabOk, dC, ev, fillD, pickCells, putAt, bnd, slD, List.getElem?_cons_zero, List.getElem?_cons_succ, dR.eq_20, Mem.cell, Mem.row, wmA]
  exact hq

/-- How long a number's text is. -/
theorem numS_len {B : Nat} (hB : 2 ≤ B) {i : Int} {L : Nat} (hi : i.natAbs < B ^ L) (hL : 1 ≤ L) : (numS B i).length ≤ L + 1 := by
  have := digs_len hB L _ hi
  unfold numS sgn
  split <;> simp <;> omega
theorem numS_pos {B : Nat} {i : Int} : 1 ≤ (numS B i).length := by
  have := digs_pos B i.natAbs
  unfold numS
  simp; omega
end Go.Proofs.YtgfkjldohilmkaaDoor.Ab

set_option linter.unusedVariables false
set_option linter.unusedSimpArgs false
namespace Go.Proofs.YtgfkjldohilmkaaDoor.Ab
open Go Go.RowKit
set_option maxHeartbeats 4000000
set_option maxRecDepth 100000

def lowN (c : UInt8) : Nat := Nat.lor c.toNat 32
def dgt (c : UInt8) : Option Nat := if 48 ≤ c.toNat ∧ c.toNat ≤ 57 then some (c.toNat - 48) else if 97 ≤ lowN c ∧ lowN c ≤ 122 then some (lowN c - 97 + 10) else none
def puStep (B M n : Nat) (c : UInt8) : Option Nat := match dgt c with
  | some d => if d < B ∧ n * B + d ≤ M then some (n * B + d) else none
  | none => none
/-- What a text's number is, up to M. -/
def puL (B M : Nat) : Nat → List UInt8 → Option Nat
  | n, [] => some n
  | n, c :: l => match puStep B M n c with
    | some n' => puL B M n' l
    | none => none
theorem lowN_lt (c : UInt8) : lowN c < 256 := by
  have h1 : c.toNat < 2 ^ 8 := c.toNat_lt
  have : c.toNat ||| 32 < 2 ^ 8 := Nat.or_lt_two_pow h1 (by omega)
  exact this
theorem dOr32 (c : UInt8) : dBin .or (.int .u8 (c.toNat : Int)) (.int .u8 32) = some (.int .u8 ((lowN c : Nat) : Int)) := by
  have h1 : c.toNat < 256 := c.toNat_lt
  have h2 := binI_eq (op := .or) (k := .u8) (a := Int.ofNat c.toNat) (b := Int.ofNat 32) (v := .int .u8 (IntKind.u8.wrap (Int.ofNat (Nat.lor c.toNat 32)))) (by
    simp only [binI, bitI]
    rw [blt_true.2 (show c.toNat < kTop .u8 by simpa [kTop] using h1), blt_true.2 (show 32 < kTop .u8 by simp [kTop])]
    simp only [wrapF_eq])
  have h3 : IntKind.u8.wrap (Int.ofNat (Nat.lor c.toNat 32)) = ((lowN c : Nat) : Int) := by
    have := lowN_lt c
    rw [IntKind.wrap_u8]
    show ((lowN c : Nat) : Int) % 256 = _
    omega
  rw [h3] at h2
  exact h2
theorem c_lower {w0 : World} {m : Mem} {c : UInt8} {Q : Value → Mem → Prop} (hq : Q (.int .u8 ((lowN c : Nat) : Int)) m) : AbC Tryd.prog w0 76 [.int .u8 (c.toNat : Int)] m Q := by
  refine AbC_fn ok76 (by simp) ?_
  simp -implicitDefEqProofs (disch := first | assumption | (simp only [wnA]; done) | (simp only [wnA]; omega) | omega | fail) [rc76, ro76, wkA, retV, stabOk, dC, ev, fillD, pickCells, putAt, bnd, slD, List.getElem?_cons_zero, List.getElem?_cons_succ, dR_sl, Mem.cell, Mem.row, wmA, dOr32]
  exact hq

theorem w_PUtail {w0 : World} {Q : AQ} {ts : Fr} {m : Mem} {B M n d C : Nat} (hC : 18446744073709551616 ≤ C * B ∧ (C - 1) * B ≤ 18446744073709551615 ∧ 1 ≤ C) (hB : 2 ≤ B ∧ B ≤ 36) (hM : n ≤ M ∧ M ≤ 18446744073709551615) (hd : d < 256)
    (t1 : ts 1 = .int .i64 (B : Int)) (t10 : ts 10 = .int .u64 (C : Int)) (t11 : ts 11 = .int .u64 (M : Int)) (t13 : ts 13 = .int .u64 (n : Int)) (t16 : ts 16 = .int .u8 (d : Int))
    (he : ∀ ts' v c, ts' 6 = .int .u64 v → ts' 7 = .iface 147 (.int .i64 c) → (c = 1 ∨ c = 2) → (c = 1 → v = (M : Int)) → ¬ (d < B ∧ n * B + d ≤ M) → Q .ret ts' m)
    (hq : ∀ ts', ts' 1 = ts 1 → ts' 8 = ts 8 → ts' 10 = ts 10 → ts' 11 = ts 11 → ts' 12 = ts 12 → ts' 99 = ts 99 → ts' 100 = ts 100 → ts' 101 = ts 101 → ts' 13 = .int .u64 ((n * B + d : Nat) : Int) → d < B → n * B + d ≤ M → Q .normal ts' m) :
    AbW Tryd.prog w0 rc73_2 Q ts m := by
  have wB8 : IntKind.u8.wrap (B : Int) = (B : Int) := by rw [IntKind.wrap_u8]; omega
  have wB64 : IntKind.u64.wrap (B : Int) = (B : Int) := IntWalk.u64_in _ (by omega)
  have wd64 : IntKind.u64.wrap (d : Int) = (d : Int) := IntWalk.u64_in _ (by omega)
  simp -implicitDefEqProofs (disch := first | assumption | (simp only [wnA]; done) | (simp only [wnA]; omega) | omega | fail) [rc73_2, wkA, retV, stabOk, dC, ev, fillD, pickCells, putAt, bnd, slD, List.getElem?_cons_zero, List.getElem?_cons_succ, dR_sl, Mem.cell, Mem.row, wmA, t1, t16, wB8]
  by_cases h1 : B ≤ d
  · simp -implicitDefEqProofs (disch := first | assumption | (simp only [wnA]; done) | (simp only [wnA]; omega) | omega | fail) [wkA, retV, stabOk, dC, ev, fillD, pickCells, putAt, bnd, slD, List.getElem?_cons_zero, List.getElem?_cons_succ, dR_sl, Mem.cell, Mem.row, wmA, h1]
    exact he _ 0 2 (by simp) (by simp) (.inr rfl) (fun h => absurd h (by decide)) (by omega)
  · simp -implicitDefEqProofs (disch := first | assumption | (simp only [wnA]; done) | (simp only [wnA]; omega) | omega | fail) [wkA, retV, stabOk, dC, ev, fillD, pickCells, putAt, bnd, slD, List.getElem?_cons_zero, List.getElem?_cons_succ, dR_sl, Mem.cell, Mem.row, wmA, h1, rc73_1, t10, t13]
    by_cases h2 : C ≤ n
    · simp -implicitDefEqProofs (disch := first | assumption | (simp only [wnA]; done) | (simp only [wnA]; omega) | omega | fail) [wkA, retV, stabOk, dC, ev, fillD, pickCells, putAt, bnd, slD, List.getElem?_cons_zero, List.getElem?_cons_succ, dR_sl, Mem.cell, Mem.row, wmA, h2, t11]
      refine he _ (M : Int) 1 (by simp) (by simp) (.inl rfl) (fun _ => rfl) ?_
      intro h3
      have h5 : C * B ≤ n * B := Nat.mul_le_mul_right _ h2
      omega
    · have h4 : n ≤ C - 1 := by omega
      have h5 : n * B ≤ (C - 1) * B := Nat.mul_le_mul_right _ h4
      have h6 := hC.2.1
      have w1 : IntKind.u64.wrap ((n : Int) * (B : Int)) = ((n * B : Nat) : Int) := by
        rw [← Int.natCast_mul]; exact IntWalk.u64_in _ (by omega)
      have w1' : IntKind.u64.wrap ((n * B : Nat) : Int) = ((n * B : Nat) : Int) := IntWalk.u64_in _ (by omega)
      generalize hX : n * B = X at *
      simp -implicitDefEqProofs (disch := first | assumption | (simp only [wnA]; done) | (simp only [wnA]; omega) | omega | fail) [wkA, retV, stabOk, dC, ev, fillD, pickCells, putAt, bnd, slD, List.getElem?_cons_zero, List.getElem?_cons_succ, dR_sl, Mem.cell, Mem.row, wmA, h2, rc73_0, t1, t13, t16, wB64, w1, wd64]
      by_cases h7 : X + d ≤ 18446744073709551615
      · have w2 : IntKind.u64.wrap ((X : Int) + (d : Int)) = ((X + d : Nat) : Int) := by rw [IntWalk.u64_in _ (by omega)]; omega
        have h8 : ¬ X + d < X := by omega
        by_cases h9 : X + d ≤ M
        · have h10 : ¬ M < X + d := by omega
          have h11 : ¬ ((M : Int) < (X : Int) + (d : Int)) := by omega
          have h12 : ¬ ((X : Int) + (d : Int) < (X : Int)) := by omega
          simp -implicitDefEqProofs (disch := first | assumption | (simp only [wnA]; done) | (simp only [wnA]; omega) | omega | fail) [wkA, retV, stabOk, dC, ev, fillD, pickCells, putAt, bnd, slD, List.getElem?_cons_zero, List.getElem?_cons_succ, dR_sl, Mem.cell, Mem.row, wmA, w2, h8, h10, h11, h12, t11]
          exact hq _ (by simp) (by simp) (by simp) (by simp) (by simp) (by simp) (by simp) (by simp) (by simp) (by omega) h9
        · have h10 : M < X + d := by omega
          have h11 : (M : Int) < (X : Int) + (d : Int) := by omega
          have h12 : ¬ ((X : Int) + (d : Int) < (X : Int)) := by omega
          simp -implicitDefEqProofs (disch := first | assumption | (simp only [wnA]; done) | (simp only [wnA]; omega) | omega | fail) [wkA, retV, stabOk, dC, ev, fillD, pickCells, putAt, bnd, slD, List.getElem?_cons_zero, List.getElem?_cons_succ, dR_sl, Mem.cell, Mem.row, wmA, w2, h8, h10, h11, h12, t11]
          exact he _ (M : Int) 1 (by simp) (by simp) (.inl rfl) (fun _ => rfl) (by omega)
      · obtain ⟨Y, hY⟩ := Nat.exists_eq_add_of_le (show 18446744073709551616 ≤ X + d by omega)
        have h12 : (Y : Int) < (X : Int) := by omega
        have h8 : Y < X := by omega
        have w2 : IntKind.u64.wrap ((X : Int) + (d : Int)) = (Y : Int) := by
          have e : (X : Int) + (d : Int) = 18446744073709551616 + (Y : Int) := by omega
          rw [e]
          simp only [IntKind.wrap, IntKind.bits, IntKind.signed]
          simp
          omega
        simp -implicitDefEqProofs (disch := first | assumption | (simp only [wnA]; done) | (simp only [wnA]; omega) | omega | fail) [wkA, retV, stabOk, dC, ev, fillD, pickCells, putAt, bnd, slD, List.getElem?_cons_zero, List.getElem?_cons_succ, dR_sl, Mem.cell, Mem.row, wmA, w2, h8, h12, t11]
        exact he _ (M : Int) 1 (by simp) (by simp) (.inl rfl) (fun _ => rfl) (by omega)

theorem w_PUloop {w0 : World} {Q : AQ} {ts : Fr} {m : Mem} {B M bits C : Nat} {s : ByteArray} (hC : 18446744073709551616 ≤ C * B ∧ (C - 1) * B ≤ 18446744073709551615 ∧ 1 ≤ C) (hB : B = 8 ∨ B = 10 ∨ B = 16) (hM : (bits = 32 ∧ M = 4294967295) ∨ (bits = 64 ∧ M = 18446744073709551615)) (hs : s.size ≤ 140737488355328)
    (t0 : ts 0 = .string s) (t1 : ts 1 = .int .i64 (B : Int)) (t2 : ts 2 = .int .i64 (bits : Int)) (t8 : ts 8 = .bool false) (t10 : ts 10 = .int .u64 (C : Int))
    (he : ∀ ts' m' v c, Old m m' → ts' 6 = .int .u64 v → ts' 7 = .iface 147 (.int .i64 c) → (c = 1 ∨ c = 2) → (c = 1 → v = (M : Int)) → puL B M 0 s.data.toList = none → Q .ret ts' m')
    (hq : ∀ ts' m' v, Old m m' → ts' 6 = .int .u64 ((v : Nat) : Int) → ts' 7 = .nilIface → puL B M 0 s.data.toList = some v → Q .ret ts' m') :
    AbW Tryd.prog w0 rc73_7 Q ts m := by
  have hBr : 2 ≤ B ∧ B ≤ 36 := by omega
  have hMr : M ≤ 18446744073709551615 := by omega
  have sh : dBin .shl (.int .u64 1) (.int .u64 (bits : Int)) = some (.int .u64 (IntKind.u64.wrap ((M : Int) + 1))) := by
    rcases hM with ⟨rfl, rfl⟩ | ⟨rfl, rfl⟩ <;> rfl
  have wbits : IntKind.u64.wrap (bits : Int) = (bits : Int) := IntWalk.u64_in _ (by omega)
  have wM : IntKind.u64.wrap (IntKind.u64.wrap ((M : Int) + 1) - 1) = (M : Int) := by
    rcases hM with ⟨rfl, rfl⟩ | ⟨rfl, rfl⟩ <;> rfl
  simp -implicitDefEqProofs (disch := first | assumption | (simp only [wnA]; done) | (simp only [wnA]; omega) | omega | fail) [rc73_7, wkA, retV, stabOk, dC, ev, fillD, pickCells, putAt, bnd, slD, List.getElem?_cons_zero, List.getElem?_cons_succ, dR_sl, Mem.cell, Mem.row, wmA, t0, t2, sh, wbits, wM]
  rw [SK_s2b (s := s) (by simp [wkA, retV, stabOk, dC, ev, fillD, pickCells, putAt, bnd, slD, List.getElem?_cons_zero, List.getElem?_cons_succ, dR_sl]) hs]
  simp -implicitDefEqProofs (disch := first | assumption | (simp only [wnA]; done) | (simp only [wnA]; omega) | omega | fail) [wkA, retV, stabOk, dC, ev, fillD, pickCells, putAt, bnd, slD, List.getElem?_cons_zero, List.getElem?_cons_succ, dR_sl, Mem.cell, Mem.row, wmA]
  have o1 : Old m (m.push (.own (s.data.toList.map byteV) 5)) := (Old.refl m).push _
  have g1 : (m.push (.own (s.data.toList.map byteV) 5)).get m.next = .own (s.data.toList.map byteV) 5 := by simp
  generalize m.push (.own (s.data.toList.map byteV) 5) = m1 at *
  have hsz : s.data.toList.length = s.size := by simp
  refine LoopW_of (fun k ts' m' => ∃ j n, j + k = s.size ∧ m' = m1 ∧ ts' 1 = .int .i64 (B : Int) ∧ ts' 8 = .bool false ∧ ts' 10 = .int .u64 (C : Int) ∧ ts' 11 = .int .u64 (M : Int) ∧ ts' 12 = .bool false ∧ ts' 13 = .int .u64 ((n : Nat) : Int) ∧
    ts' 99 = .slice (some ⟨m.next, 0, none⟩) s.size 1 ∧ ts' 100 = .int .i64 (s.size : Nat) ∧ ts' 101 = .int .i64 (j : Nat) ∧ n ≤ M ∧ puL B M 0 s.data.toList = puL B M n (s.data.toList.drop j)) s.size ?_ ?_
  · exact ⟨0, 0, by omega, rfl, by simp [t1], by simp [t8], by simp [t10], by simp, by simp, by simp, by simp, by simp, by simp, by omega, by simp⟩
  · rintro k ts' m2 K ⟨j, n, hj, rfl, s1, s8, s10, s11, s12, s13, s99, s100, s101, hn, hpu⟩ hK
    simp -implicitDefEqProofs (disch := first | assumption | (simp only [wnA]; done) | (simp only [wnA]; omega) | omega | fail) [rc73_4, wkA, retV, stabOk, dC, ev, fillD, pickCells, putAt, bnd, slD, List.getElem?_cons_zero, List.getElem?_cons_succ, dR_sl, Mem.cell, Mem.row, wmA, s100, s101]
    by_cases hjl : j < s.size
    · have hjl' : j < s.data.toList.length := by omega
      obtain ⟨c, hc⟩ : ∃ c, s.data.toList[j] = c := ⟨_, rfl⟩
      have hat : (s.data.toList.map byteV)[j]? = some (byteV c) := by rw [List.getElem?_map, List.getElem?_eq_getElem hjl', hc]; rfl
      obtain ⟨hlt', hat'⟩ := List.getElem?_eq_some_iff.1 hat
      have hdr : s.data.toList.drop j = c :: s.data.toList.drop (j + 1) := by rw [List.drop_eq_getElem_cons hjl', hc]
      have hjw : IntKind.i64.wrap ((j : Int) + 1) = ((j + 1 : Nat) : Int) := by rw [w64 (by omega)]; omega
      have hcl : c.toNat < 256 := c.toNat_lt
      rw [hdr] at hpu
      have bad : puStep B M n c = none → puL B M 0 s.data.toList = none := fun h => by rw [hpu]; simp [puL, h]
      have good : ∀ n', puStep B M n c = some n' → puL B M 0 s.data.toList = puL B M n' (s.data.toList.drop (j + 1)) := fun n' h => by rw [hpu]; simp [puL, h]
      generalize s.data.toList.map byteV = row at *
      have tail : ∀ (ts2 : Fr) (d : Nat), dgt c = some d → d < 256 → ∀ {Q2 : AQ}, (∀ ts' m', Q2 .ret ts' m' = Q .ret ts' m') → (∀ ts', ts' 1 = ts2 1 → ts' 8 = ts2 8 → ts' 10 = ts2 10 → ts' 11 = ts2 11 → ts' 12 = ts2 12 → ts' 99 = ts2 99 → ts' 100 = ts2 100 → ts' 101 = ts2 101 → ts' 13 = .int .u64 ((n * B + d : Nat) : Int) → n * B + d ≤ M → puStep B M n c = some (n * B + d) → Q2 .normal ts' m2) →
          ts2 1 = .int .i64 (B : Int) → ts2 10 = .int .u64 (C : Int) → ts2 11 = .int .u64 (M : Int) → ts2 13 = .int .u64 (n : Int) → ts2 16 = .int .u8 (d : Int) → AbW Tryd.prog w0 rc73_2 Q2 ts2 m2 := by
        intro ts2 d hdg hd Q2 hr hq2 u1 u10 u11 u13 u16
        refine w_PUtail hC hBr ⟨hn, hMr⟩ hd u1 u10 u11 u13 u16 (fun ts' v c' h6 h7 hc' hv' hno => ?_) fun ts' r1 r8 r10 r11 r12 r99 r100 r101 r13 hdB hle => ?_
        · rw [hr]
          refine he ts' m2 v c' o1 h6 h7 hc' hv' (bad ?_)
          simp only [puStep, hdg]
          rw [if_neg hno]
        · exact hq2 ts' r1 r8 r10 r11 r12 r99 r100 r101 r13 hle (by simp only [puStep, hdg]; rw [if_pos ⟨hdB, hle⟩])
      have fin : ∀ (ts' : Fr) (d : Nat), ts' 1 = .int .i64 (B : Int) → ts' 8 = .bool false → ts' 10 = .int .u64 (C : Int) → ts' 11 = .int .u64 (M : Int) → ts' 12 = .bool false → ts' 99 = .slice (some ⟨m.next, 0, none⟩) s.size 1 → ts' 100 = .int .i64 (s.size : Nat) → ts' 101 = .int .i64 ((j + 1 : Nat) : Int) → ts' 13 = .int .u64 ((n * B + d : Nat) : Int) → n * B + d ≤ M → puStep B M n c = some (n * B + d) → K ts' m2 := fun ts' d r1 r8 r10 r11 r12 r99 r100 r101 r13 hle hp =>
        hK (k - 1) ts' m2 (by omega) ⟨j + 1, n * B + d, by omega, rfl, r1, r8, r10, r11, r12, r13, r99, r100, r101, hle, good _ hp⟩
      by_cases h95 : c.toNat = 95
      · have q1 : ((c.toNat : Int) == 95) = true := by simp [h95]
        have q3 : dgt c = none := by
          have hc95 : c = 95 := UInt8.toNat_inj.1 h95
          rw [hc95]; decide
        have q4 : lowN c = 127 := by
          have hc95 : c = 95 := UInt8.toNat_inj.1 h95
          rw [hc95]; decide
        have q5 : (48 : Int) ≤ (c.toNat : Int) := by omega
        have q2 : ¬ (c.toNat : Int) ≤ 57 := by omega
        simp -implicitDefEqProofs (disch := first | assumption | (simp only [wnA]; done) | (simp only [wnA]; omega) | omega | fail) [hjl, rc73_3, wkA, retV, stabOk, dC, ev, fillD, pickCells, putAt, bnd, slD, List.getElem?_cons_zero, List.getElem?_cons_succ, dR_sl, Mem.cell, Mem.row, wmA, s8, s99, s101, sidx_at, g1, hat, hat', byteV, q1, q2, q5]
        refine c_lower ?_
        simp -implicitDefEqProofs (disch := first | assumption | (simp only [wnA]; done) | (simp only [wnA]; omega) | omega | fail) [wkA, retV, stabOk, dC, ev, fillD, pickCells, putAt, bnd, slD, List.getElem?_cons_zero, List.getElem?_cons_succ, dR_sl, Mem.cell, Mem.row, wmA, q4]
        refine c_lower ?_
        simp -implicitDefEqProofs (disch := first | assumption | (simp only [wnA]; done) | (simp only [wnA]; omega) | omega | fail) [wkA, retV, stabOk, dC, ev, fillD, pickCells, putAt, bnd, slD, List.getElem?_cons_zero, List.getElem?_cons_succ, dR_sl, Mem.cell, Mem.row, wmA, q4]
        exact he _ m2 0 2 o1 (by simp) (by simp) (.inr rfl) (fun h => absurd h (by decide)) (bad (by simp [puStep, q3]))
      · have q1 : ((c.toNat : Int) == 95) = false := by simp; omega
        by_cases h48 : 48 ≤ c.toNat ∧ c.toNat ≤ 57
        · have hd : dgt c = some (c.toNat - 48) := by simp [dgt, h48]
          have i48 : (48 : Int) ≤ (c.toNat : Int) ∧ (c.toNat : Int) ≤ 57 := by omega
          have w8 : IntKind.u8.wrap ((c.toNat : Int) - 48) = ((c.toNat - 48 : Nat) : Int) := by rw [IntKind.wrap_u8]; omega
          simp -implicitDefEqProofs (disch := first | assumption | (simp only [wnA]; done) | (simp only [wnA]; omega) | omega | fail) [hjl, rc73_3, wkA, retV, stabOk, dC, ev, fillD, pickCells, putAt, bnd, slD, List.getElem?_cons_zero, List.getElem?_cons_succ, dR_sl, Mem.cell, Mem.row, wmA, s8, s99, s101, sidx_at, g1, hat, hat', byteV, q1, i48, w8]
          refine tail _ (c.toNat - 48) hd (by omega) ?_ ?_ ?_ ?_ ?_ ?_ ?_
          · intro ts3 m3; simp -implicitDefEqProofs (disch := first | assumption | (simp only [wnA]; done) | (simp only [wnA]; omega) | omega | fail) [wkA, retV, stabOk, dC, ev, fillD, pickCells, putAt, bnd, slD, List.getElem?_cons_zero, List.getElem?_cons_succ, dR_sl, Mem.cell, Mem.row, wmA]
          · intro ts3 r1 r8 r10 r11 r12 r99 r100 r101 r13 hle hp
            simp at r1 r8 r10 r11 r12 r99 r100 r101
            simp -implicitDefEqProofs (disch := first | assumption | (simp only [wnA]; done) | (simp only [wnA]; omega) | omega | fail) [wkA, retV, stabOk, dC, ev, fillD, pickCells, putAt, bnd, slD, List.getElem?_cons_zero, List.getElem?_cons_succ, dR_sl, Mem.cell, Mem.row, wmA, r101, s101, hjw]
            exact fin _ (c.toNat - 48) (by simp [r1, s1]) (by simp [r8, s8]) (by simp [r10, s10]) (by simp [r11, s11]) (by simp [r12, s12]) (by simp [r99, s99]) (by simp [r100, s100]) (by simp) (by simp [r13]) hle hp
          · simp [s1]
          · simp [s10]
          · simp [s11]
          · simp [s13]
          · simp
        · by_cases h97 : 97 ≤ lowN c ∧ lowN c ≤ 122
          · have hd : dgt c = some (lowN c - 97 + 10) := by simp only [dgt]; rw [if_neg h48, if_pos h97]
            have w8 : IntKind.u8.wrap (((lowN c : Nat) : Int) - 97) = ((lowN c - 97 : Nat) : Int) := by rw [IntKind.wrap_u8]; omega
            have w8' : IntKind.u8.wrap (((lowN c - 97 : Nat) : Int) + 10) = ((lowN c - 97 + 10 : Nat) : Int) := by rw [IntKind.wrap_u8]; omega
            have i97 : (97 : Int) ≤ ((lowN c : Nat) : Int) ∧ ((lowN c : Nat) : Int) ≤ 122 := by omega
            generalize hlo : lowN c = lo at *
            have cl : ∀ {R : Value → Mem → Prop}, R (.int .u8 ((lo : Nat) : Int)) m2 → AbC Tryd.prog w0 76 [.int .u8 (c.toNat : Int)] m2 R := fun h => c_lower (by rw [hlo]; exact h)
            generalize hE : lo - 97 = e at *
            by_cases h48a : (48 : Int) ≤ (c.toNat : Int)
            · have h57 : ¬ (c.toNat : Int) ≤ 57 := by omega
              simp -implicitDefEqProofs (disch := first | assumption | (simp only [wnA]; done) | (simp only [wnA]; omega) | omega | fail) [hjl, rc73_3, wkA, retV, stabOk, dC, ev, fillD, pickCells, putAt, bnd, slD, List.getElem?_cons_zero, List.getElem?_cons_succ, dR_sl, Mem.cell, Mem.row, wmA, s8, s99, s101, sidx_at, g1, hat, hat', byteV, q1, h48a, h57]
              refine cl ?_
              simp -implicitDefEqProofs (disch := first | assumption | (simp only [wnA]; done) | (simp only [wnA]; omega) | omega | fail) [wkA, retV, stabOk, dC, ev, fillD, pickCells, putAt, bnd, slD, List.getElem?_cons_zero, List.getElem?_cons_succ, dR_sl, Mem.cell, Mem.row, wmA, i97]
              refine cl ?_
              simp -implicitDefEqProofs (disch := first | assumption | (simp only [wnA]; done) | (simp only [wnA]; omega) | omega | fail) [wkA, retV, stabOk, dC, ev, fillD, pickCells, putAt, bnd, slD, List.getElem?_cons_zero, List.getElem?_cons_succ, dR_sl, Mem.cell, Mem.row, wmA, i97]
              refine cl ?_
              simp -implicitDefEqProofs (disch := first | assumption | (simp only [wnA]; done) | (simp only [wnA]; omega) | omega | fail) [wkA, retV, stabOk, dC, ev, fillD, pickCells, putAt, bnd, slD, List.getElem?_cons_zero, List.getElem?_cons_succ, dR_sl, Mem.cell, Mem.row, wmA, w8, w8']
              refine tail _ (e + 10) hd (by omega) ?_ ?_ ?_ ?_ ?_ ?_ ?_
              · intro ts3 m3; simp -implicitDefEqProofs (disch := first | assumption | (simp only [wnA]; done) | (simp only [wnA]; omega) | omega | fail) [wkA, retV, stabOk, dC, ev, fillD, pickCells, putAt, bnd, slD, List.getElem?_cons_zero, List.getElem?_cons_succ, dR_sl, Mem.cell, Mem.row, wmA]
              · intro ts3 r1 r8 r10 r11 r12 r99 r100 r101 r13 hle hp
                simp at r1 r8 r10 r11 r12 r99 r100 r101
                simp -implicitDefEqProofs (disch := first | assumption | (simp only [wnA]; done) | (simp only [wnA]; omega) | omega | fail) [wkA, retV, stabOk, dC, ev, fillD, pickCells, putAt, bnd, slD, List.getElem?_cons_zero, List.getElem?_cons_succ, dR_sl, Mem.cell, Mem.row, wmA, r101, s101, hjw]
                exact fin _ (e + 10) (by simp [r1, s1]) (by simp [r8, s8]) (by simp [r10, s10]) (by simp [r11, s11]) (by simp [r12, s12]) (by simp [r99, s99]) (by simp [r100, s100]) (by simp) (by simp [r13]) hle hp
              · simp [s1]
              · simp [s10]
              · simp [s11]
              · simp [s13]
              · simp
            · simp -implicitDefEqProofs (disch := first | assumption | (simp only [wnA]; done) | (simp only [wnA]; omega) | omega | fail) [hjl, rc73_3, wkA, retV, stabOk, dC, ev, fillD, pickCells, putAt, bnd, slD, List.getElem?_cons_zero, List.getElem?_cons_succ, dR_sl, Mem.cell, Mem.row, wmA, s8, s99, s101, sidx_at, g1, hat, hat', byteV, q1, h48a]
              refine cl ?_
              simp -implicitDefEqProofs (disch := first | assumption | (simp only [wnA]; done) | (simp only [wnA]; omega) | omega | fail) [wkA, retV, stabOk, dC, ev, fillD, pickCells, putAt, bnd, slD, List.getElem?_cons_zero, List.getElem?_cons_succ, dR_sl, Mem.cell, Mem.row, wmA, i97]
              refine cl ?_
              simp -implicitDefEqProofs (disch := first | assumption | (simp only [wnA]; done) | (simp only [wnA]; omega) | omega | fail) [wkA, retV, stabOk, dC, ev, fillD, pickCells, putAt, bnd, slD, List.getElem?_cons_zero, List.getElem?_cons_succ, dR_sl, Mem.cell, Mem.row, wmA, i97]
              refine cl ?_
              simp -implicitDefEqProofs (disch := first | assumption | (simp only [wnA]; done) | (simp only [wnA]; omega) | omega | fail) [wkA, retV, stabOk, dC, ev, fillD, pickCells, putAt, bnd, slD, List.getElem?_cons_zero, List.getElem?_cons_succ, dR_sl, Mem.cell, Mem.row, wmA, w8, w8']
              refine tail _ (e + 10) hd (by omega) ?_ ?_ ?_ ?_ ?_ ?_ ?_
              · intro ts3 m3; simp -implicitDefEqProofs (disch := first | assumption | (simp only [wnA]; done) | (simp only [wnA]; omega) | omega | fail) [wkA, retV, stabOk, dC, ev, fillD, pickCells, putAt, bnd, slD, List.getElem?_cons_zero, List.getElem?_cons_succ, dR_sl, Mem.cell, Mem.row, wmA]
              · intro ts3 r1 r8 r10 r11 r12 r99 r100 r101 r13 hle hp
                simp at r1 r8 r10 r11 r12 r99 r100 r101
                simp -implicitDefEqProofs (disch := first | assumption | (simp only [wnA]; done) | (simp only [wnA]; omega) | omega | fail) [wkA, retV, stabOk, dC, ev, fillD, pickCells, putAt, bnd, slD, List.getElem?_cons_zero, List.getElem?_cons_succ, dR_sl, Mem.cell, Mem.row, wmA, r101, s101, hjw]
                exact fin _ (e + 10) (by simp [r1, s1]) (by simp [r8, s8]) (by simp [r10, s10]) (by simp [r11, s11]) (by simp [r12, s12]) (by simp [r99, s99]) (by simp [r100, s100]) (by simp) (by simp [r13]) hle hp
              · simp [s1]
              · simp [s10]
              · simp [s11]
              · simp [s13]
              · simp
          · have hd : dgt c = none := by simp only [dgt]; rw [if_neg h48, if_neg h97]
            generalize hlo : lowN c = lo at *
            have cl : ∀ {R : Value → Mem → Prop}, R (.int .u8 ((lo : Nat) : Int)) m2 → AbC Tryd.prog w0 76 [.int .u8 (c.toNat : Int)] m2 R := fun h => c_lower (by rw [hlo]; exact h)
            have out : ∀ ts3 : Fr, ts3 6 = .int .u64 0 → ts3 7 = .iface 147 (.int .i64 2) → Q .ret ts3 m2 := fun ts3 e6 e7 => he ts3 m2 0 2 o1 e6 e7 (.inr rfl) (fun h => absurd h (by decide)) (bad (by simp [puStep, hd]))
            by_cases h48a : (48 : Int) ≤ (c.toNat : Int)
            · have h57 : ¬ (c.toNat : Int) ≤ 57 := by omega
              simp -implicitDefEqProofs (disch := first | assumption | (simp only [wnA]; done) | (simp only [wnA]; omega) | omega | fail) [hjl, rc73_3, wkA, retV, stabOk, dC, ev, fillD, pickCells, putAt, bnd, slD, List.getElem?_cons_zero, List.getElem?_cons_succ, dR_sl, Mem.cell, Mem.row, wmA, s8, s99, s101, sidx_at, g1, hat, hat', byteV, q1, h48a, h57]
              refine cl ?_
              by_cases hl1 : (97 : Int) ≤ (lo : Int)
              · have hl2 : ¬ (lo : Int) ≤ 122 := by omega
                simp -implicitDefEqProofs (disch := first | assumption | (simp only [wnA]; done) | (simp only [wnA]; omega) | omega | fail) [wkA, retV, stabOk, dC, ev, fillD, pickCells, putAt, bnd, slD, List.getElem?_cons_zero, List.getElem?_cons_succ, dR_sl, Mem.cell, Mem.row, wmA, hl1]
                refine cl ?_
                simp -implicitDefEqProofs (disch := first | assumption | (simp only [wnA]; done) | (simp only [wnA]; omega) | omega | fail) [wkA, retV, stabOk, dC, ev, fillD, pickCells, putAt, bnd, slD, List.getElem?_cons_zero, List.getElem?_cons_succ, dR_sl, Mem.cell, Mem.row, wmA, hl2]
                exact out _ (by simp) (by simp)
              · simp -implicitDefEqProofs (disch := first | assumption | (simp only [wnA]; done) | (simp only [wnA]; omega) | omega | fail) [wkA, retV, stabOk, dC, ev, fillD, pickCells, putAt, bnd, slD, List.getElem?_cons_zero, List.getElem?_cons_succ, dR_sl, Mem.cell, Mem.row, wmA, hl1]
                exact out _ (by simp) (by simp)
            · simp -implicitDefEqProofs (disch := first | assumption | (simp only [wnA]; done) | (simp only [wnA]; omega) | omega | fail) [hjl, rc73_3, wkA, retV, stabOk, dC, ev, fillD, pickCells, putAt, bnd, slD, List.getElem?_cons_zero, List.getElem?_cons_succ, dR_sl, Mem.cell, Mem.row, wmA, s8, s99, s101, sidx_at, g1, hat, hat', byteV, q1, h48a]
              refine cl ?_
              by_cases hl1 : (97 : Int) ≤ (lo : Int)
              · have hl2 : ¬ (lo : Int) ≤ 122 := by omega
                simp -implicitDefEqProofs (disch := first | assumption | (simp only [wnA]; done) | (simp only [wnA]; omega) | omega | fail) [wkA, retV, stabOk, dC, ev, fillD, pickCells, putAt, bnd, slD, List.getElem?_cons_zero, List.getElem?_cons_succ, dR_sl, Mem.cell, Mem.row, wmA, hl1]
                refine cl ?_
                simp -implicitDefEqProofs (disch := first | assumption | (simp only [wnA]; done) | (simp only [wnA]; omega) | omega | fail) [wkA, retV, stabOk, dC, ev, fillD, pickCells, putAt, bnd, slD, List.getElem?_cons_zero, List.getElem?_cons_succ, dR_sl, Mem.cell, Mem.row, wmA, hl2]
                exact out _ (by simp) (by simp)
              · simp -implicitDefEqProofs (disch := first | assumption | (simp only [wnA]; done) | (simp only [wnA]; omega) | omega | fail) [wkA, retV, stabOk, dC, ev, fillD, pickCells, putAt, bnd, slD, List.getElem?_cons_zero, List.getElem?_cons_succ, dR_sl, Mem.cell, Mem.row, wmA, hl1]
                exact out _ (by simp) (by simp)
    · have hjj : j = s.size := by omega
      subst hjj
      rw [List.drop_eq_nil_of_le (by omega)] at hpu
      simp -implicitDefEqProofs (disch := first | assumption | (simp only [wnA]; done) | (simp only [wnA]; omega) | omega | fail) [hjl, rc73_6, rc73_5, wkA, retV, stabOk, dC, ev, fillD, pickCells, putAt, bnd, slD, List.getElem?_cons_zero, List.getElem?_cons_succ, dR_sl, Mem.cell, Mem.row, wmA, s12, s13]
      exact hq _ _ n o1 (by simp) (by simp) hpu
end Go.Proofs.YtgfkjldohilmkaaDoor.Ab

set_option linter.unusedVariables false
set_option linter.unusedSimpArgs false
namespace Go.Proofs.YtgfkjldohilmkaaDoor.Ab
open Go Go.RowKit
set_option maxHeartbeats 4000000
set_option maxRecDepth 100000

theorem c_iPU {w0 : World} {m : Mem} {B M bits : Nat} {s : ByteArray} {Q : Value → Mem → Prop} (hB : B = 8 ∨ B = 10 ∨ B = 16) (hM : (bits = 32 ∧ M = 4294967295) ∨ (bits = 64 ∧ M = 18446744073709551615)) (hs : s.size ≤ 140737488355328)
    (he : ∀ m' v c, Old m m' → (c = 1 ∨ c = 2) → (s.size = 0 → c = 2) → (c = 1 → v = (M : Int)) → (s.size = 0 ∨ puL B M 0 s.data.toList = none) → Q (.tuple ⟨[.int .u64 v, .iface 147 (.int .i64 c)]⟩) m')
    (hq : ∀ m' v, Old m m' → s.size ≠ 0 → puL B M 0 s.data.toList = some v → Q (.tuple ⟨[.int .u64 ((v : Nat) : Int), .nilIface]⟩) m') :
    AbC Tryd.prog w0 73 [.string s, .int .i64 (B : Int), .int .i64 (bits : Int)] m Q := by
  refine AbC_fn ok73 (by simp) ?_
  simp -implicitDefEqProofs (disch := first | assumption | (simp only [wnA]; done) | (simp only [wnA]; omega) | omega | fail) [rc73, ro73, wkA, retV, stabOk, dC, ev, fillD, pickCells, putAt, bnd, slD, List.getElem?_cons_zero, List.getElem?_cons_succ, dR_sl, Mem.cell, Mem.row, wmA]
  by_cases h0 : s.size = 0
  · have hem : s.data.isEmpty = true := Array.isEmpty_iff_size_eq_zero.2 h0
    simp -implicitDefEqProofs (disch := first | assumption | (simp only [wnA]; done) | (simp only [wnA]; omega) | omega | fail) [wkA, retV, stabOk, dC, ev, fillD, pickCells, putAt, bnd, slD, List.getElem?_cons_zero, List.getElem?_cons_succ, dR_sl, Mem.cell, Mem.row, wmA, hem]
    exact he _ 0 2 (Old.refl m) (.inr rfl) (fun _ => rfl) (fun h => absurd h (by decide)) (.inl h0)
  · have hem : s.data.isEmpty = false := by
      cases hx : s.data.isEmpty with
      | false => rfl
      | true => exact (h0 (Array.isEmpty_iff_size_eq_zero.1 hx)).elim
    have f1 : (2 : Int) ≤ (B : Int) ∧ (B : Int) ≤ 36 := by omega
    have f2 : (B : Int) ≠ 0 := by omega
    have f3 : (bits : Int) ≠ 0 := by omega
    have f4 : ¬ (bits : Int) < 0 := by omega
    have f5 : ¬ (64 : Int) < (bits : Int) := by omega
    have he' : ∀ (ts' : Fr) (m' : Mem) (v c : Int), Old m m' → ts' 6 = .int .u64 v → ts' 7 = .iface 147 (.int .i64 c) → (c = 1 ∨ c = 2) → (c = 1 → v = (M : Int)) → puL B M 0 s.data.toList = none → bodyA ro73 Q .ret ts' m' := fun ts' m' v c o e6 e7 hc hvM hn => by
      simp -implicitDefEqProofs (disch := first | assumption | (simp only [wnA]; done) | (simp only [wnA]; omega) | omega | fail) [ro73, wkA, retV, stabOk, dC, ev, fillD, pickCells, putAt, bnd, slD, List.getElem?_cons_zero, List.getElem?_cons_succ, dR_sl, Mem.cell, Mem.row, wmA, e6, e7]
      exact he m' v c o hc (fun h => absurd h h0) hvM (.inr hn)
    have hq' : ∀ (ts' : Fr) (m' : Mem) (v : Nat), Old m m' → ts' 6 = .int .u64 ((v : Nat) : Int) → ts' 7 = .nilIface → puL B M 0 s.data.toList = some v → bodyA ro73 Q .ret ts' m' := fun ts' m' v o e6 e7 hv => by
      simp -implicitDefEqProofs (disch := first | assumption | (simp only [wnA]; done) | (simp only [wnA]; omega) | omega | fail) [ro73, wkA, retV, stabOk, dC, ev, fillD, pickCells, putAt, bnd, slD, List.getElem?_cons_zero, List.getElem?_cons_succ, dR_sl, Mem.cell, Mem.row, wmA, e6, e7]
      exact hq m' v o h0 hv
    simp only [ro73] at he' hq'
    rcases hB with rfl | rfl | rfl
    · have w2 : dBin .quo (.int .u64 18446744073709551615) (.int .u64 8) = some (.int .u64 2305843009213693951) := rfl
      have w3 : IntKind.u64.wrap 2305843009213693952 = 2305843009213693952 := rfl
      have w4 : IntKind.u64.wrap 8 = 8 := rfl
      simp -implicitDefEqProofs (disch := first | assumption | (simp only [wnA]; done) | (simp only [wnA]; omega) | omega | fail) [wkA, retV, stabOk, dC, ev, fillD, pickCells, putAt, bnd, slD, List.getElem?_cons_zero, List.getElem?_cons_succ, dR_sl, Mem.cell, Mem.row, wmA, hem, rc73_10, rc73_9, rc73_8, beqF f3, f4, f5, w2, w3, w4]
      exact w_PUloop (B := 8) (C := 2305843009213693952) (by omega) (.inl rfl) hM hs (by simp [frA_at]) (by simp [frA_at]) (by simp [frA_at]) (by simp) (by simp) he' hq'
    · simp -implicitDefEqProofs (disch := first | assumption | (simp only [wnA]; done) | (simp only [wnA]; omega) | omega | fail) [wkA, retV, stabOk, dC, ev, fillD, pickCells, putAt, bnd, slD, List.getElem?_cons_zero, List.getElem?_cons_succ, dR_sl, Mem.cell, Mem.row, wmA, hem, rc73_10, rc73_9, rc73_8, beqF f3, f4, f5]
      exact w_PUloop (B := 10) (C := 1844674407370955162) (by omega) (.inr (.inl rfl)) hM hs (by simp [frA_at]) (by simp [frA_at]) (by simp [frA_at]) (by simp) (by simp) he' hq'
    · simp -implicitDefEqProofs (disch := first | assumption | (simp only [wnA]; done) | (simp only [wnA]; omega) | omega | fail) [wkA, retV, stabOk, dC, ev, fillD, pickCells, putAt, bnd, slD, List.getElem?_cons_zero, List.getElem?_cons_succ, dR_sl, Mem.cell, Mem.row, wmA, hem, rc73_10, rc73_9, rc73_8, beqF f3, f4, f5]
      exact w_PUloop (B := 16) (C := 1152921504606846976) (by omega) (.inr (.inr rfl)) hM hs (by simp [frA_at]) (by simp [frA_at]) (by simp [frA_at]) (by simp) (by simp) he' hq'

/-! Errors of the library: a new block that nothing is told of. -/
theorem St.dead {P : Program} {w0 w : World} {G : Loc} {m : Mem} (h : St P w0 G m w) (x : Nat × Nat × Nat) : Loc.le G (fun i => if i = m.next then some x else G i) ∧ St P w0 (fun i => if i = m.next then some x else G i) (m.push .dead) w := by
  have hle : Loc.le G (fun i => if i = m.next then some x else G i) := by
    intro i y hy
    have := h.dom i y hy
    show (if i = m.next then some x else G i) = some y
    rw [if_neg (by omega)]; exact hy
  refine ⟨hle, h.below, ?_, ?_, ?_, ?_, ?_, ?_⟩
  · intro i y hy
    by_cases hi : i = m.next
    · subst hi; simp
    · simp only [hi, if_false] at hy
      have := h.dom i y hy
      simp; omega
  · intro i B b S hd hx
    by_cases hi : i = m.next
    · subst hi; simp at hd
    · simp only [hi, if_false] at hx
      exact h.lim i B b S (by simpa only [Mem.push_get, hi, if_false] using hd) hx
  · intro i hd
    by_cases hi : i = m.next
    · subst hi; simp at hd
    · simp only [Mem.push_get, hi, if_false] at hd ⊢
      obtain ⟨B, b, S, hg, hr⟩ := h.ent i hd
      exact ⟨B, b, S, hg, hr.mono hle⟩
  · intro i j B y z hi hj gi gj
    have key : ∀ k, ((m.push .dead).get k).mine = true → k ≠ m.next ∧ (m.get k).mine = true := by
      intro k hk
      by_cases e : k = m.next
      · subst e; simp [Ent.mine] at hk
      · exact ⟨e, by simpa only [Mem.push_get, e, if_false] using hk⟩
    obtain ⟨e1, k1⟩ := key i hi
    obtain ⟨e2, k2⟩ := key j hj
    simp only [e1, e2, if_false] at gi gj
    exact h.inj i j B y z k1 k2 gi gj
  · intro g hg
    obtain ⟨S, hS⟩ := h.glob g hg
    exact ⟨S, hle _ _ hS⟩
  · intro i cs e B b S hi hx
    by_cases h1 : i = m.next
    · subst h1; simp at hi
    · simp only [Mem.push_get, h1, if_false] at hi hx
      exact h.ali i cs e B b S hi hx
theorem c_callsP {P : Program} {w0 : World} {m : Mem} {f : FuncId} {args : List Value} {T : TypeId} {Q : Value → Mem → Prop} (hcall : callOk P f = true) (ha : args.all (plainV 6) = true)
    (h : ∀ (G : Loc) (w : World), St P w0 G m w → Calls P f args.toArray w fun e w' => ∃ N, e = .returned (.iface T (.pointer (some ⟨N, 0, none⟩))) ∧ Below w.heap.size w w') (hq : Q (.iface T (.pointer (some ⟨m.next, 0, none⟩))) (m.push .dead)) : AbC P w0 f args m Q := by
  intro G w args' hs hargs
  have ha' : ∀ u ∈ args, plainV 6 u = true := by simpa [List.all_eq_true] using ha
  have he : args' = args := VRs.plain_eq hargs fun u hu u' hr => VR.plain_eq 6 u u' (ha' u hu) hr
  subst he
  rw [run_callFunc_enter hcall]
  show Calls _ _ _ _ _
  refine (h G w hs).mono ?_
  rintro e w' ⟨N, rfl, hb⟩
  obtain ⟨h1, h2⟩ := (hs.grown hb).dead (N, 0, 0)
  exact ⟨_, rfl, _, _, _, h1, .iface _ _ _ (.ptr m.next 0 N 0 0 (by simp)), h2, hq⟩

def IfaceAt (w : World) (g : Nat) : Prop := ∃ ev, w.cell? ⟨g, 0, none⟩ = some ev ∧ (ev = .nilIface ∨ ∃ t p, ev = .iface t p)
/-- The library's two errors lie in the world. -/
abbrev ErrV (w : World) : Prop := IfaceAt w 5 ∧ IfaceAt w 6
theorem ifaceAt {P : Program} {w0 w : World} {G : Loc} {m : Mem} {g : Nat} (h : IfaceAt w0 g) (hs : St P w0 G m w) : IfaceAt w g := by
  obtain ⟨ev, h1, h2⟩ := h
  refine ⟨ev, ?_, h2⟩
  have hlt : g < w0.heap.size := by
    rcases Nat.lt_or_ge g w0.heap.size with h' | h'
    · exact h'
    · simp [World.cell?, Array.getElem?_eq_none h'] at h1
  unfold World.cell? at h1 ⊢
  rw [hs.below.block g hlt]; exact h1
theorem c_toError {w0 : World} {m : Mem} {fn s : ByteArray} {base bits c : Int} {Q : Value → Mem → Prop} (hE : ErrV w0) (hc : c = 1 ∨ c = 2) (hs : s.size ≤ 140737488355328) (hq : Q (.iface 149 (.pointer (some ⟨m.next, 0, none⟩))) (m.push .dead)) :
    AbC Tryd.prog w0 74 [.string fn, .string s, .int .i64 base, .int .i64 bits, .iface 147 (.int .i64 c)] m Q := by
  refine c_callsP (T := 149) (by kernel_rfl) (by rcases hc with rfl | rfl <;> rfl) (fun G w hst => ?_) hq
  rcases hc with rfl | rfl
  · obtain ⟨ev, h1, h2⟩ := ifaceAt hE.2 hst
    refine (Tryd.strconv_toError_range fn s base bits ev w (by omega) h1 h2).mono ?_
    rintro e w' ⟨N, rfl, -, -, hb⟩
    exact ⟨N, rfl, hb⟩
  · obtain ⟨ev, h1, h2⟩ := ifaceAt hE.1 hst
    refine (Tryd.strconv_toError_syntax fn s base bits ev w (by omega) h1 h2).mono ?_
    rintro e w' ⟨N, rfl, -, -, hb⟩
    exact ⟨N, rfl, hb⟩
theorem laid_iface {P : Program} {W : World} {l : List (String × DataW Unit)} {name tn : String} {d : DataW Unit} {g t : Nat} {ms : Array _} (h : laidMet P l W) (hm : (name, .iface tn d) ∈ l)
    (hg : P.globalNamed name = some g) (hty : (P.globals[g]?).map (·.type) = some t) (ht : P.underlying t = some (.interface ms)) : IfaceAt W g := by
  obtain ⟨ps, hv, _⟩ := h
  obtain ⟨g', t', cs, fuel, p, h1, h2, h3, h4⟩ := laid_mem hv hm
  obtain rfl := Option.some.inj (hg.symm.trans h1)
  obtain rfl := Option.some.inj (hty.symm.trans h2)
  cases fuel with
  | zero => simp [DataW.trod] at h4
  | succ fuel =>
    have hc := fun v (hv : cs.toList = [v]) => by
      have : W.cell? ⟨g, 0, none⟩ = some v := by
        have := World.var?_cell hg h3 0
        rw [this]
        have e : cs[0]? = cs.toList[0]? := by simp
        rw [e, hv]; rfl
      exact this
    simp only [DataW.trod, ht] at h4
    split at h4 <;> first
      | (cases ‹some (TypeDesc.interface ms) = some _›; done)
      | (cases ‹some (TypeDesc.interface ms) = some _›; first
          | (simp at h4; done)
          | exact ⟨_, hc _ ‹cs.toList = _›, .inr ⟨_, _, rfl⟩⟩)
      | (simp at h4; done)
theorem errV_of {W : World} {l : List (String × DataW Unit)} {d1 d2 : DataW Unit} (h : laidMet Tryd.prog l W) (h1 : ("strconv.ErrSyntax", .iface "*errors.errorString" d1) ∈ l) (h2 : ("strconv.ErrRange", .iface "*errors.errorString" d2) ∈ l) : ErrV W :=
  ⟨laid_iface (g := 5) (t := 28) h h1 (by kernel_rfl) (by kernel_rfl) Tryd.underlying28, laid_iface (g := 6) (t := 28) h h2 (by kernel_rfl) (by kernel_rfl) Tryd.underlying28⟩

theorem c_ParseUint {w0 : World} {m : Mem} {B M bits : Nat} {s : ByteArray} {Q : Value → Mem → Prop} (hE : ErrV w0) (hB : B = 8 ∨ B = 10 ∨ B = 16) (hM : (bits = 32 ∧ M = 4294967295) ∨ (bits = 64 ∧ M = 18446744073709551615)) (hs : s.size ≤ 140737488355328)
    (he : ∀ m' v p, Old m m' → (s.size = 0 ∨ puL B M 0 s.data.toList = none) → Q (.tuple ⟨[.int .u64 v, .iface 149 p]⟩) m')
    (hq : ∀ m' v, Old m m' → s.size ≠ 0 → puL B M 0 s.data.toList = some v → Q (.tuple ⟨[.int .u64 ((v : Nat) : Int), .nilIface]⟩) m') :
    AbC Tryd.prog w0 68 [.string s, .int .i64 (B : Int), .int .i64 (bits : Int)] m Q := by
  refine AbC_fn ok68 (by simp) ?_
  simp -implicitDefEqProofs (disch := first | assumption | (simp only [wnA]; done) | (simp only [wnA]; omega) | omega | fail) [rc68, ro68, wkA, retV, stabOk, dC, ev, fillD, pickCells, putAt, bnd, slD, List.getElem?_cons_zero, List.getElem?_cons_succ, dR_sl, Mem.cell, Mem.row, wmA]
  refine c_iPU hB hM hs (fun m1 v c o1 hc _ _ hn => ?_) fun m1 v o1 h0 hv => ?_
  · simp -implicitDefEqProofs (disch := first | assumption | (simp only [wnA]; done) | (simp only [wnA]; omega) | omega | fail) [wkA, retV, stabOk, dC, ev, fillD, pickCells, putAt, bnd, slD, List.getElem?_cons_zero, List.getElem?_cons_succ, dR_sl, Mem.cell, Mem.row, wmA]
    refine c_toError hE hc hs ?_
    simp -implicitDefEqProofs (disch := first | assumption | (simp only [wnA]; done) | (simp only [wnA]; omega) | omega | fail) [wkA, retV, stabOk, dC, ev, fillD, pickCells, putAt, bnd, slD, List.getElem?_cons_zero, List.getElem?_cons_succ, dR_sl, Mem.cell, Mem.row, wmA]
    exact he _ v _ (o1.push _) hn
  · simp -implicitDefEqProofs (disch := first | assumption | (simp only [wnA]; done) | (simp only [wnA]; omega) | omega | fail) [wkA, retV, stabOk, dC, ev, fillD, pickCells, putAt, bnd, slD, List.getElem?_cons_zero, List.getElem?_cons_succ, dR_sl, Mem.cell, Mem.row, wmA, rc68_0]
    exact hq m1 v o1 h0 hv
end Go.Proofs.YtgfkjldohilmkaaDoor.Ab

set_option linter.unusedVariables false
set_option linter.unusedSimpArgs false
namespace Go.Proofs.YtgfkjldohilmkaaDoor.Ab
open Go Go.RowKit
set_option maxHeartbeats 4000000
set_option maxRecDepth 100000

theorem dgt_digC : ∀ d : Fin 36, dgt (digC d.val) = some d.val ∧ digC d.val ≠ 43 ∧ digC d.val ≠ 45 := by decide +kernel
theorem puL_snoc {B M : Nat} (c : UInt8) : ∀ (l : List UInt8) (n : Nat), puL B M n (l ++ [c]) = (puL B M n l).bind fun n' => puStep B M n' c
  | [], n => by
    simp only [List.nil_append, puL, Option.bind_some]
    cases puStep B M n c <;> rfl
  | a :: l, n => by
    simp only [List.cons_append, puL]
    cases puStep B M n a with
    | none => rfl
    | some n' => exact puL_snoc c l n'
theorem puL_digs {B M : Nat} (hB : 2 ≤ B ∧ B ≤ 36) : ∀ n, n ≤ M → puL B M 0 (digs B n) = some n := by
  intro n
  induction n using Nat.strongRecOn with
  | _ n ih =>
    intro hn
    by_cases h : n < B
    · rw [digs_lt h]
      simp only [puL, puStep, (dgt_digC ⟨n, by omega⟩).1]
      rw [if_pos ⟨h, by omega⟩]
      simp
    · have h1 : n / B < n := Nat.div_lt_self (by omega) (by omega)
      have h2 : n % B < B := Nat.mod_lt _ (by omega)
      have h3 : n / B * B + n % B = n := Nat.div_add_mod' n B
      rw [digs_ge (by omega) (by omega), puL_snoc, ih _ h1 (by omega)]
      simp only [Option.bind_some, puStep, (dgt_digC ⟨n % B, by omega⟩).1]
      rw [if_pos ⟨h2, by omega⟩, h3]
theorem numS_ofNat {B n : Nat} : numS B (n : Int) = digs B n := by
  unfold numS sgn
  have h : decide ((n : Int) < 0) = false := by simp
  rw [h]
  simp
theorem digs_sgn {B : Nat} (hB : 2 ≤ B ∧ B ≤ 36) : ∀ n, ∀ c ∈ digs B n, c ≠ 43 ∧ c ≠ 45 := by
  intro n
  induction n using Nat.strongRecOn with
  | _ n ih =>
    intro c hc
    by_cases h : n < B
    · rw [digs_lt h] at hc
      simp at hc; subst hc
      exact (dgt_digC ⟨n, by omega⟩).2
    · have h1 : n / B < n := Nat.div_lt_self (by omega) (by omega)
      have h2 : n % B < B := Nat.mod_lt _ (by omega)
      rw [digs_ge (by omega) (by omega), List.mem_append] at hc
      rcases hc with hc | hc
      · exact ih _ h1 c hc
      · simp at hc; subst hc
        exact (dgt_digC ⟨n % B, by omega⟩).2

theorem digs_none {B : Nat} (hB : B = 8 ∨ B = 10 ∨ B = 16) {s : ByteArray} (h : s.size = 0 ∨ puL B 18446744073709551615 0 s.data.toList = none) {k : Nat} (hk : k < 9223372036854775808) : s.data.toList ≠ digs B k := by
  intro e
  rcases h with h | h
  · have := digs_pos B k
    rw [← e] at this
    simp at this
    omega
  · rw [e, puL_digs (by omega) k (by omega)] at h
    cases h
theorem digs_some {B : Nat} (hB : B = 8 ∨ B = 10 ∨ B = 16) {s : ByteArray} {v : Nat} (h : puL B 18446744073709551615 0 s.data.toList = some v) {k : Nat} (hk : k < 9223372036854775808) (e : s.data.toList = digs B k) : v = k := by
  rw [e, puL_digs (by omega) k (by omega)] at h
  exact (Option.some.inj h).symm

theorem dEq_ii {l : List TypeId} {t : TypeId} {k : IntKind} {a b : Int} : dEq (.iface l) (.iface t (.int k a)) (.iface t (.int k b)) = if l.contains t = true then some (a == b) else none := by
  simp [dEq]

end Go.Proofs.YtgfkjldohilmkaaDoor.Ab

set_option linter.unusedVariables false
set_option linter.unusedSimpArgs false
namespace Go.Proofs.YtgfkjldohilmkaaDoor.Ab
open Go Go.RowKit

theorem ba_idx (l : List UInt8) (n : Nat) : (ByteArray.mk ⟨l⟩)[n]? = l[n]? := by
  show (if h : n < l.length then some _ else none) = _
  split
  · rename_i hj; rw [List.getElem?_eq_getElem hj]; rfl
  · rename_i hj; rw [List.getElem?_eq_none (by omega)]
theorem getOf {S : ByteArray} {n : Nat} {x : UInt8} (g : S[n]? = some x) : ∀ h : n < S.size, S[n]'h = x := fun h => by
  have := getElem?_pos S n h
  rw [g] at this
  exact (Option.some.inj this).symm
theorem ba_size (l : List UInt8) : (ByteArray.mk ⟨l⟩).size = l.length := rfl
end Go.Proofs.YtgfkjldohilmkaaDoor.Ab

set_option linter.unusedVariables false
set_option linter.unusedSimpArgs false
namespace Go.Proofs.YtgfkjldohilmkaaDoor.Ab
open Go Go.RowKit
set_option maxHeartbeats 4000000
set_option maxRecDepth 100000

/-- A builder in block i that holds these bytes: it and its row lie behind what was there. -/
def Bld (base m : Mem) (i : Nat) (bs : List UInt8) : Prop := Old base m ∧ base.next ≤ i ∧ i < m.next ∧ ∃ pa ob, m.get i = .own [pa, slV ob bs.length 1] 61 ∧ (pa = .pointer none ∨ pa = .pointer (some ⟨i, 0, none⟩)) ∧
  SlO m 5 1 ob (bs.map byteV) bs.length ∧ (bs = [] → ob = none) ∧ ∀ b, ob = some b → base.next ≤ b ∧ b ≠ i

theorem Bld.new {base m : Mem} (h : Old base m) : Bld base (m.push (.own [.pointer none, .slice none 0 0] 61)) m.next [] :=
  ⟨h.push _, h.1, by simp, .pointer none, none, by simp [slV], .inl rfl, ⟨rfl, rfl⟩, fun _ => rfl, fun b hb => by cases hb⟩

theorem c_copyCheck {w0 : World} {m : Mem} {i : Nat} {pa v : Value} {Q : Value → Mem → Prop} (hi : m.get i = .own [pa, v] 61) (hpa : pa = .pointer none ∨ pa = .pointer (some ⟨i, 0, none⟩))
    (hq : ∀ m', m'.next = m.next → m'.get i = .own [.pointer (some ⟨i, 0, none⟩), v] 61 → (∀ k, k ≠ i → m'.get k = m.get k) → Q (.tuple ⟨[]⟩) m') :
    AbC Tryd.prog w0 36 [.pointer (some ⟨i, 0, none⟩)] m Q := by
  refine AbC_fn ok36 (by simp) ?_
  rcases hpa with rfl | rfl
  · simp -implicitDefEqProofs (disch := first | assumption | (simp only [wnA]; done) | (simp only [wnA]; omega) | omega | fail) [rc36, ro36, wkA, retV, stabOk, dC, ev, fillD, pickCells, putAt, bnd, slD, List.getElem?_cons_zero, List.getElem?_cons_succ, dR.eq_20, Mem.cell, Mem.row, wmA, hi]
    refine x_same xis47 ?_
    simp -implicitDefEqProofs (disch := first | assumption | (simp only [wnA]; done) | (simp only [wnA]; omega) | omega | fail) [wkA, retV, stabOk, dC, ev, fillD, pickCells, putAt, bnd, slD, List.getElem?_cons_zero, List.getElem?_cons_succ, dR.eq_20, Mem.cell, Mem.row, wmA, hi]
    refine SK_st (i := i) (o := 0) (by simp [wkA, retV, stabOk, dC, ev, fillD, pickCells, putAt, bnd, slD, List.getElem?_cons_zero, List.getElem?_cons_succ, dR.eq_20]) (e := 61) hi (by simp) (by simp [wkA, retV, stabOk, dC, ev, fillD, pickCells, putAt, bnd, slD, List.getElem?_cons_zero, List.getElem?_cons_succ, dR.eq_20]) (by simp [wkA, retV, stabOk, dC, ev, fillD, pickCells, putAt, bnd, slD, List.getElem?_cons_zero, List.getElem?_cons_succ, dR.eq_20, oneC]) ?_
    simp -implicitDefEqProofs (disch := first | assumption | (simp only [wnA]; done) | (simp only [wnA]; omega) | omega | fail) [wkA, retV, stabOk, dC, ev, fillD, pickCells, putAt, bnd, slD, List.getElem?_cons_zero, List.getElem?_cons_succ, dR.eq_20, Mem.cell, Mem.row, wmA]
    exact hq _ rfl (by simp) fun k hk => Mem.set_other _ _ hk
  · simp -implicitDefEqProofs (disch := first | assumption | (simp only [wnA]; done) | (simp only [wnA]; omega) | omega | fail) [rc36, ro36, wkA, retV, stabOk, dC, ev, fillD, pickCells, putAt, bnd, slD, List.getElem?_cons_zero, List.getElem?_cons_succ, dR.eq_20, Mem.cell, Mem.row, wmA, hi]
    exact hq m rfl hi fun _ _ => rfl

/-- More bytes lie behind. -/
theorem Bld.more {base m m1 : Mem} {i : Nat} {bs cs : List UInt8} {pa : Value} {ob : Option Nat} (h : Bld base m i bs) (hn : m1.next = m.next) (hi : m1.get i = .own [.pointer (some ⟨i, 0, none⟩), slV ob bs.length 1] 61)
    (ho : ∀ k, k ≠ i → m1.get k = m.get k) (hob : ∀ b, ob = some b → base.next ≤ b ∧ b ≠ i) (hcs : cs ≠ []) :
    Bld base (((m1.kill ob).push (.own (bs.map byteV ++ cs.map byteV) 5)).set i (.own [.pointer (some ⟨i, 0, none⟩), slV (some m1.next) (bs.length + cs.length) 1] 61)) i (bs ++ cs) := by
  obtain ⟨h1, h2, h3, pa', ob', h4, h5, h6, hz, h7⟩ := h
  have hold : Old base m1 := ⟨by rw [hn]; exact h1.1, fun k hk => by rw [ho k (by omega), h1.2 k hk]⟩
  refine ⟨((hold.kill fun b hb => (hob b hb).1).push _).set h2 _, h2, by simp [Mem.kill_nxt]; omega, _, some m1.next, by simp, .inr rfl, ⟨by simp, ?_⟩, fun hb => absurd (List.append_eq_nil_iff.1 hb).2 hcs, fun b hb => by cases hb; exact ⟨by rw [hn]; exact Nat.le_trans h2 (by omega), by omega⟩⟩
  refine ⟨?_, by simp [Mem.kill_nxt]⟩
  rw [Mem.set_other _ _ (by omega)]
  simp [Mem.push_get, Mem.kill_nxt]

theorem c_WriteByte {w0 : World} {base m : Mem} {i : Nat} {bs : List UInt8} {b : UInt8} {Q : Value → Mem → Prop} (h : Bld base m i bs) (hl : bs.length + 1 ≤ 140737488355328) (hq : ∀ m', Bld base m' i (bs ++ [b]) → Q .nilIface m') :
    AbC Tryd.prog w0 35 [.pointer (some ⟨i, 0, none⟩), .int .u8 b.toNat] m Q := by
  refine AbC_fn ok35 (by simp) ?_
  have h0 := h
  obtain ⟨h1, h2, h3, pa, ob, h4, h5, h6, hz, h7⟩ := h
  simp -implicitDefEqProofs (disch := first | assumption | (simp only [wnA]; done) | (simp only [wnA]; omega) | omega | fail) [rc35, ro35, wkA, retV, stabOk, dC, ev, fillD, pickCells, putAt, bnd, slD, List.getElem?_cons_zero, List.getElem?_cons_succ, dR.eq_20, Mem.cell, Mem.row, wmA]
  refine c_copyCheck h4 h5 fun m1 n1 g1 o1 => ?_
  simp -implicitDefEqProofs (disch := first | assumption | (simp only [wnA]; done) | (simp only [wnA]; omega) | omega | fail) [wkA, retV, stabOk, dC, ev, fillD, pickCells, putAt, bnd, slD, List.getElem?_cons_zero, List.getElem?_cons_succ, dR.eq_20, Mem.cell, Mem.row, wmA, g1]
  rw [SK_bsl (cs := [.int .u8 b.toNat]) (by simp [wkA, retV, stabOk, dC, ev, fillD, pickCells, putAt, bnd, slD, List.getElem?_cons_zero, List.getElem?_cons_succ, dR.eq_20]) (by simp)]
  have hs1 : SlO m1 5 1 ob (bs.map byteV) bs.length := h6.keep (Nat.le_of_eq n1.symm) fun k hk => o1 _ (h7 k hk).2
  simp -implicitDefEqProofs (disch := first | assumption | (simp only [wnA]; done) | (simp only [wnA]; omega) | omega | fail) [wkA, retV, stabOk, dC, ev, fillD, pickCells, putAt, bnd, slD, List.getElem?_cons_zero, List.getElem?_cons_succ, dR.eq_20, Mem.cell, Mem.row, wmA, g1]
  have hne : ob ≠ some m1.next := hs1.old (Nat.le_refl _)
  refine SK_ap (hs1.push _) (by simp [wkA, retV, stabOk, dC, ev, fillD, pickCells, putAt, bnd, slD, List.getElem?_cons_zero, List.getElem?_cons_succ, dR.eq_20]) (ys := [.int .u8 b.toNat]) (by simp -implicitDefEqProofs (disch := first | assumption | (simp only [wnA]; done) | (simp only [wnA]; omega) | omega | fail) [wkA, retV, stabOk, dC, ev, fillD, pickCells, putAt, bnd, slD, List.getElem?_cons_zero, List.getElem?_cons_succ, dR.eq_20, elemsV, Mem.cell, Mem.row, wmA]) (k := 1) (by simp [wkA, retV, stabOk, dC, ev, fillD, pickCells, putAt, bnd, slD, List.getElem?_cons_zero, List.getElem?_cons_succ, dR.eq_20]) (by simp) (by simp [oneC]) (by omega) (by simp only [maxLen]; omega) (by simp) ?_
  have hoi : ob ≠ some i := fun e => (h7 i e).2 rfl
  simp -implicitDefEqProofs (disch := first | assumption | (simp only [wnA]; done) | (simp only [wnA]; omega) | omega | fail) [wkA, retV, stabOk, dC, ev, fillD, pickCells, putAt, bnd, slD, List.getElem?_cons_zero, List.getElem?_cons_succ, dR.eq_20, Mem.cell, Mem.row, wmA, g1]
  refine SK_st (i := i) (o := 1) (by simp [wkA, retV, stabOk, dC, ev, fillD, pickCells, putAt, bnd, slD, List.getElem?_cons_zero, List.getElem?_cons_succ, dR.eq_20]) (e := 61) (cs := [.pointer (some ⟨i, 0, none⟩), slV ob bs.length 1]) ?_ (by simp) (by simp [wkA, retV, stabOk, dC, ev, fillD, pickCells, putAt, bnd, slD, List.getElem?_cons_zero, List.getElem?_cons_succ, dR.eq_20]) (by simp [wkA, retV, stabOk, dC, ev, fillD, pickCells, putAt, bnd, slD, List.getElem?_cons_zero, List.getElem?_cons_succ, dR.eq_20]) ?_
  · rw [Mem.push_old _ _ (by simp [Mem.kill_nxt]; omega), Mem.kill_other _ hoi, Mem.push_old _ _ (by omega)]
    exact g1
  simp -implicitDefEqProofs (disch := first | assumption | (simp only [wnA]; done) | (simp only [wnA]; omega) | omega | fail) [wkA, retV, stabOk, dC, ev, fillD, pickCells, putAt, bnd, slD, List.getElem?_cons_zero, List.getElem?_cons_succ, dR.eq_20, Mem.cell, Mem.row, wmA]
  refine hq _ ?_
  have hb : Bld base (m1.push (.own [.int .u8 b.toNat] 5)) i bs := ⟨⟨by simp; have := h1.1; omega, fun k hk => by rw [Mem.push_old _ _ (by have := h1.1; omega), o1 _ (by omega), h1.2 k hk]⟩, h2, by simp; omega, _, ob, by rw [Mem.push_old _ _ (by omega)]; exact g1, .inr rfl, hs1.push _, hz, h7⟩
  have := hb.more (cs := [b]) (pa := .pointer none) rfl (by rw [Mem.push_old _ _ (by omega)]; exact g1) (fun _ _ => rfl) h7 (by simp)
  simpa [byteV] using this

theorem c_WriteString {w0 : World} {base m : Mem} {i : Nat} {bs : List UInt8} {s : ByteArray} {Q : Value → Mem → Prop} (h : Bld base m i bs) (hl : bs.length + s.size ≤ 140737488355328) (hq : ∀ m', Bld base m' i (bs ++ s.data.toList) → Q (.tuple ⟨[.int .i64 s.size, .nilIface]⟩) m') :
    AbC Tryd.prog w0 24 [.pointer (some ⟨i, 0, none⟩), .string s] m Q := by
  refine AbC_fn ok24 (by simp) ?_
  have h0 := h
  obtain ⟨h1, h2, h3, pa, ob, h4, h5, h6, hz, h7⟩ := h
  simp -implicitDefEqProofs (disch := first | assumption | (simp only [wnA]; done) | (simp only [wnA]; omega) | omega | fail) [rc24, ro24, wkA, retV, stabOk, dC, ev, fillD, pickCells, putAt, bnd, slD, List.getElem?_cons_zero, List.getElem?_cons_succ, dR.eq_20, Mem.cell, Mem.row, wmA]
  refine c_copyCheck h4 h5 fun m1 n1 g1 o1 => ?_
  have hs1 : SlO m1 5 1 ob (bs.map byteV) bs.length := h6.keep (Nat.le_of_eq n1.symm) fun k hk => o1 _ (h7 k hk).2
  have hb : Bld base m1 i bs := ⟨⟨by have := h1.1; omega, fun k hk => by rw [o1 _ (by omega), h1.2 k hk]⟩, h2, by omega, _, ob, g1, .inr rfl, hs1, hz, h7⟩
  have hsz : s.data.toList.length = s.size := by simp
  simp -implicitDefEqProofs (disch := first | assumption | (simp only [wnA]; done) | (simp only [wnA]; omega) | omega | fail) [wkA, retV, stabOk, dC, ev, fillD, pickCells, putAt, bnd, slD, List.getElem?_cons_zero, List.getElem?_cons_succ, dR.eq_20, Mem.cell, Mem.row, wmA, g1]
  have hoi : ob ≠ some i := fun e => (h7 i e).2 rfl
  by_cases h00 : s.size = 0
  · have he : s.data.toList = [] := List.length_eq_zero_iff.1 (by omega)
    have hsk : SK Tryd.prog w0 (.e (.app 5 1 1 (.tmp 12) (.tmp 13))) = SK Tryd.prog w0 (.e (.app 5 1 1 (.tmp 12) (.tmp 13))) := rfl
    have hx : ∀ (ts : Fr) (R : Value → Mem → Prop), ts 12 = slV ob bs.length 1 → ts 13 = .string s → R (slV ob bs.length 1) m1 → SK Tryd.prog w0 (.e (.app 5 1 1 (.tmp 12) (.tmp 13))) ts m1 R := by
      intro ts R e1 e2 hR
      simp only [SK, dE, ev, e1, e2, elemsV, if_true, lenV_str, h00]
      cases ob with
      | none =>
        have := hs1.2
        simp only [slV] at hR ⊢
        exact hR
      | some b => exact hR
    refine hx _ _ (by simp) (by simp) ?_
    simp -implicitDefEqProofs (disch := first | assumption | (simp only [wnA]; done) | (simp only [wnA]; omega) | omega | fail) [wkA, retV, stabOk, dC, ev, fillD, pickCells, putAt, bnd, slD, List.getElem?_cons_zero, List.getElem?_cons_succ, dR.eq_20, Mem.cell, Mem.row, wmA, g1]
    refine SK_st (i := i) (o := 1) (by simp [wkA, retV, stabOk, dC, ev, fillD, pickCells, putAt, bnd, slD, List.getElem?_cons_zero, List.getElem?_cons_succ, dR.eq_20]) (e := 61) (cs := [.pointer (some ⟨i, 0, none⟩), slV ob bs.length 1]) g1 (by simp) (by simp [wkA, retV, stabOk, dC, ev, fillD, pickCells, putAt, bnd, slD, List.getElem?_cons_zero, List.getElem?_cons_succ, dR.eq_20]) (by simp [wkA, retV, stabOk, dC, ev, fillD, pickCells, putAt, bnd, slD, List.getElem?_cons_zero, List.getElem?_cons_succ, dR.eq_20]) ?_
    simp -implicitDefEqProofs (disch := first | assumption | (simp only [wnA]; done) | (simp only [wnA]; omega) | omega | fail) [wkA, retV, stabOk, dC, ev, fillD, pickCells, putAt, bnd, slD, List.getElem?_cons_zero, List.getElem?_cons_succ, dR.eq_20, Mem.cell, Mem.row, wmA]
    refine hq _ ?_
    rw [he, List.append_nil]
    obtain ⟨a1, a2, a3, _⟩ := hb
    refine ⟨a1.set h2 _, h2, by simpa using a3, _, ob, by simp, .inr rfl, hs1.set hoi _, hz, h7⟩
  · refine SK_ap hs1 (by simp [wkA, retV, stabOk, dC, ev, fillD, pickCells, putAt, bnd, slD, List.getElem?_cons_zero, List.getElem?_cons_succ, dR.eq_20]) (ys := s.data.toList.map byteV) (by simp -implicitDefEqProofs (disch := first | assumption | (simp only [wnA]; done) | (simp only [wnA]; omega) | omega | fail) [wkA, retV, stabOk, dC, ev, fillD, pickCells, putAt, bnd, slD, List.getElem?_cons_zero, List.getElem?_cons_succ, dR.eq_20, elemsV, Mem.cell, Mem.row, wmA]) (k := s.size) (by simp [wkA, retV, stabOk, dC, ev, fillD, pickCells, putAt, bnd, slD, List.getElem?_cons_zero, List.getElem?_cons_succ, dR.eq_20]) (by omega) (byteV_oneC _) (by omega) (by simp only [maxLen]; omega) (by simp) ?_
    simp -implicitDefEqProofs (disch := first | assumption | (simp only [wnA]; done) | (simp only [wnA]; omega) | omega | fail) [wkA, retV, stabOk, dC, ev, fillD, pickCells, putAt, bnd, slD, List.getElem?_cons_zero, List.getElem?_cons_succ, dR.eq_20, Mem.cell, Mem.row, wmA, g1]
    refine SK_st (i := i) (o := 1) (by simp [wkA, retV, stabOk, dC, ev, fillD, pickCells, putAt, bnd, slD, List.getElem?_cons_zero, List.getElem?_cons_succ, dR.eq_20]) (e := 61) (cs := [.pointer (some ⟨i, 0, none⟩), slV ob bs.length 1]) ?_ (by simp) (by simp [wkA, retV, stabOk, dC, ev, fillD, pickCells, putAt, bnd, slD, List.getElem?_cons_zero, List.getElem?_cons_succ, dR.eq_20]) (by simp [wkA, retV, stabOk, dC, ev, fillD, pickCells, putAt, bnd, slD, List.getElem?_cons_zero, List.getElem?_cons_succ, dR.eq_20]) ?_
    · rw [Mem.push_old _ _ (by simp [Mem.kill_nxt]; omega), Mem.kill_other _ hoi]
      exact g1
    simp -implicitDefEqProofs (disch := first | assumption | (simp only [wnA]; done) | (simp only [wnA]; omega) | omega | fail) [wkA, retV, stabOk, dC, ev, fillD, pickCells, putAt, bnd, slD, List.getElem?_cons_zero, List.getElem?_cons_succ, dR.eq_20, Mem.cell, Mem.row, wmA]
    refine hq _ ?_
    have := hb.more (cs := s.data.toList) (pa := .pointer none) rfl g1 (fun _ _ => rfl) h7 (fun e => h00 (by rw [← hsz, e]; rfl))
    simpa using this

theorem bytesOf_map : ∀ (l : List UInt8), bytesOf (l.map byteV) = some l
  | [] => rfl
  | b :: l => by
    show (bytesOf (l.map byteV)).map (UInt8.ofNat ((b.toNat : Int).toNat) :: ·) = _
    rw [bytesOf_map l]
    simp

theorem c_BString {w0 : World} {base m : Mem} {i : Nat} {bs : List UInt8} {Q : Value → Mem → Prop} (h : Bld base m i bs) (hl : bs.length ≤ 140737488355328) (hq : ∀ m', Old base m' → Q (.string ⟨⟨bs⟩⟩) m') :
    AbC Tryd.prog w0 28 [.pointer (some ⟨i, 0, none⟩)] m Q := by
  refine AbC_fn ok28 (by simp) ?_
  obtain ⟨h1, h2, h3, pa, ob, h4, h5, h6, hz, h7⟩ := h
  cases ob with
  | none =>
    have h0 : bs.length = 0 := h6.2
    have h00 : bs = [] := List.length_eq_zero_iff.1 h0
    subst h00
    simp only [slV] at h4
    simp -implicitDefEqProofs (disch := first | assumption | (simp only [wnA]; done) | (simp only [wnA]; omega) | omega | fail) [rc28, ro28, wkA, retV, stabOk, dC, ev, fillD, pickCells, putAt, bnd, slD, List.getElem?_cons_zero, List.getElem?_cons_succ, dR.eq_20, Mem.cell, Mem.row, wmA, h4]
    simp only [SK, dE, ev, upd_at]
    simp -implicitDefEqProofs (disch := first | assumption | (simp only [wnA]; done) | (simp only [wnA]; omega) | omega | fail) [wkA, retV, stabOk, dC, ev, fillD, pickCells, putAt, bnd, slD, List.getElem?_cons_zero, List.getElem?_cons_succ, dR.eq_20, Mem.cell, Mem.row, wmA]
    exact hq _ h1
  | some b =>
    have hne : bs ≠ [] := fun e => by have := hz e; cases this
    have hpos : 0 < bs.length := List.length_pos_iff.2 hne
    obtain ⟨q1, q2, q3⟩ := h6
    obtain ⟨r1, r2⟩ := h7 b rfl
    rw [slV_some] at h4
    simp -implicitDefEqProofs (disch := first | assumption | (simp only [wnA]; done) | (simp only [wnA]; omega) | omega | fail) [rc28, ro28, wkA, retV, stabOk, dC, ev, fillD, pickCells, putAt, bnd, slD, List.getElem?_cons_zero, List.getElem?_cons_succ, dR.eq_20, Mem.cell, Mem.row, wmA, h4, hpos]
    have hrow : (List.map byteV bs).take bs.length = bs.map byteV := by
      rw [List.take_of_length_le (by simp)]
    have hk : ¬ ((bs.length : Int) = 0) := by omega
    have hk2 : (0 : Int) < bs.length ∧ (bs.length : Int) ≤ 9223372036854775807 := by omega
    simp only [SK, dE, ev, upd_at]
    simp -implicitDefEqProofs (disch := first | assumption | (simp only [wnA]; done) | (simp only [wnA]; omega) | omega | fail) [q2, hk, hk2, hrow, bytesOf_map, hne, hpos]
    simp -implicitDefEqProofs (disch := first | assumption | (simp only [wnA]; done) | (simp only [wnA]; omega) | omega | fail) [wkA, retV, stabOk, dC, ev, fillD, pickCells, putAt, bnd, slD, List.getElem?_cons_zero, List.getElem?_cons_succ, dR.eq_20, Mem.cell, Mem.row, wmA]
    exact hq _ (h1.set r1 _)
end Go.Proofs.YtgfkjldohilmkaaDoor.Ab

set_option linter.unusedVariables false
set_option linter.unusedSimpArgs false
namespace Go.Proofs.YtgfkjldohilmkaaDoor.Ab
open Go

theorem ixB_cases (c : UInt8) : ∀ l : List UInt8, (Lib.indexByte l c = -1 ∧ c ∉ l) ∨ ∃ a r, l = a ++ c :: r ∧ c ∉ a ∧ Lib.indexByte l c = (a.length : Nat)
  | [] => .inl ⟨rfl, by simp⟩
  | b :: l => by
    unfold Lib.indexByte
    by_cases h : b = c
    · subst h
      exact .inr ⟨[], l, rfl, by simp, by simp⟩
    · have hb : (b == c) = false := by simpa using h
      simp only [hb, Bool.false_eq_true, if_false]
      rcases ixB_cases c l with ⟨h1, h2⟩ | ⟨a, r, h1, h2, h3⟩
      · refine .inl ⟨by rw [h1]; rfl, ?_⟩
        simp only [List.mem_cons, not_or]
        exact ⟨fun e => h e.symm, h2⟩
      · refine .inr ⟨b :: a, r, by rw [h1]; rfl, ?_, ?_⟩
        · simp only [List.mem_cons, not_or]
          exact ⟨fun e => h e.symm, h2⟩
        · rw [h3]
          have : ((a.length : Int) == -1) = false := by simp
          rw [this]
          simp
theorem ixB_hit {c : UInt8} {a r : List UInt8} (h : c ∉ a) : Lib.indexByte (a ++ c :: r) c = (a.length : Nat) := by
  rcases ixB_cases c (a ++ c :: r) with ⟨-, h2⟩ | ⟨a', r', h1, h2, h3⟩
  · exact (h2 (by simp)).elim
  · rw [h3]
    congr 1
    have key : ∀ (a a' r r' : List UInt8), c ∉ a → c ∉ a' → a ++ c :: r = a' ++ c :: r' → a'.length = a.length := by
      intro a
      induction a with
      | nil =>
        intro a' r r' h1 h2 h
        cases a' with
        | nil => rfl
        | cons x a' => simp at h; simp [h.1] at h2
      | cons x a ih =>
        intro a' r r' h1 h2 h
        cases a' with
        | nil => simp at h; simp [h.1] at h1
        | cons y a' =>
          simp at h h1 h2
          simp [ih a' r r' h1.2 h2.2 h.2]
    exact key a a' r r' h h2 h1
theorem ixB_miss {c : UInt8} {a : List UInt8} (h : c ∉ a) : Lib.indexByte a c = -1 := by
  rcases ixB_cases c a with ⟨h1, _⟩ | ⟨a', r', h1, _, _⟩
  · exact h1
  · rw [h1] at h; simp at h

/-- The pieces, put together again. -/
def joinC (c : UInt8) : List (List UInt8) → List UInt8
  | [] => []
  | [a] => a
  | a :: b :: l => a ++ c :: joinC c (b :: l)
theorem splitK_ne {c : UInt8} {k : Nat} {s : List UInt8} : ∃ a l, Lib.splitK [c] 0 k s = a :: l := by
  cases k with
  | zero => exact ⟨_, _, rfl⟩
  | succ k =>
    unfold Lib.splitK
    split
    · exact ⟨_, _, rfl⟩
    · exact ⟨_, _, rfl⟩
theorem splitK_join {c : UInt8} : ∀ (k : Nat) (s : List UInt8), joinC c (Lib.splitK [c] 0 k s) = s
  | 0, s => rfl
  | k + 1, s => by
    unfold Lib.splitK
    rw [Lib.index_one]
    rcases ixB_cases c s with ⟨h1, h2⟩ | ⟨a, r, h1, h2, h3⟩
    · rw [h1]; rfl
    · rw [h3]
      have : ((a.length : Int) == -1) = false := by simp
      rw [this]
      obtain ⟨x, l, hx⟩ := splitK_ne (c := c) (k := k) (s := s.drop (((a.length : Nat) : Int).toNat + [c].length))
      have ih := splitK_join (c := c) k (s.drop (((a.length : Nat) : Int).toNat + [c].length))
      rw [hx] at ih
      simp only [Bool.false_eq_true, if_false, hx, joinC, ih]
      subst h1
      simp
theorem splitK_hit {c : UInt8} {k : Nat} {a r : List UInt8} (h : c ∉ a) : Lib.splitK [c] 0 (k + 1) (a ++ c :: r) = a :: Lib.splitK [c] 0 k r := by
  show (if Lib.index (a ++ c :: r) [c] == -1 then [a ++ c :: r] else (a ++ c :: r).take ((Lib.index (a ++ c :: r) [c]).toNat + 0) :: Lib.splitK [c] 0 k ((a ++ c :: r).drop ((Lib.index (a ++ c :: r) [c]).toNat + [c].length))) = _
  rw [Lib.index_one, ixB_hit h]
  have : ((a.length : Int) == -1) = false := by simp
  rw [this]
  simp only [Bool.false_eq_true, if_false]
  have h1 : ((a.length : Int)).toNat = a.length := by omega
  rw [h1]
  have h2 : (a ++ c :: r).drop (a.length + [c].length) = r := by
    rw [show a.length + [c].length = (a ++ [c]).length from by simp]
    rw [show a ++ c :: r = (a ++ [c]) ++ r from by simp, List.drop_left]
  rw [h2]
  simp
theorem splitK_zero {c : UInt8} {s : List UInt8} : Lib.splitK [c] 0 0 s = [s] := rfl

/-- What lies ahead of the bytes that are trimmed. -/
theorem trim_cases (c : UInt8) (l : List UInt8) : ∃ k, l = Lib.trimRightB l c ++ List.replicate k c := by
  unfold Lib.trimRightB
  have key : ∀ l : List UInt8, ∃ k, l = List.replicate k c ++ l.dropWhile (· == c) := by
    intro l
    induction l with
    | nil => exact ⟨0, rfl⟩
    | cons b l ih =>
      by_cases h : b = c
      · subst h
        obtain ⟨k, hk⟩ := ih
        refine ⟨k + 1, ?_⟩
        simp only [List.dropWhile_cons, beq_self_eq_true, if_true, List.replicate_succ, List.cons_append]
        rw [← hk]
      · have hb : (b == c) = false := by simpa using h
        exact ⟨0, by simp [List.dropWhile_cons, hb]⟩
  obtain ⟨k, hk⟩ := key l.reverse
  refine ⟨k, ?_⟩
  have := congrArg List.reverse hk
  rw [List.reverse_reverse, List.reverse_append, List.reverse_replicate] at this
  exact this
theorem trim_pad {c x : UInt8} {a : List UInt8} (h : x ≠ c) (k : Nat) : Lib.trimRightB (a ++ x :: List.replicate k c) c = a ++ [x] := by
  unfold Lib.trimRightB
  have e : (a ++ x :: List.replicate k c).reverse = List.replicate k c ++ x :: a.reverse := by simp
  rw [e]
  have key : ∀ k, (List.replicate k c ++ x :: a.reverse).dropWhile (· == c) = x :: a.reverse := by
    intro k
    induction k with
    | zero =>
      have hb : (x == c) = false := by simpa using h
      simp [List.dropWhile_cons, hb]
    | succ k ih => simpa [List.replicate_succ, List.dropWhile_cons] using ih
  rw [key]
  simp
end Go.Proofs.YtgfkjldohilmkaaDoor.Ab

set_option linter.unusedVariables false
set_option linter.unusedSimpArgs false
namespace Go.Proofs.YtgfkjldohilmkaaDoor.Ab
open Go Go.RowKit
open Go.Sort (Holds putRow putCells onCells)
set_option maxHeartbeats 4000000
set_option maxRecDepth 100000

/-- The numeral is written into a row of zeros. -/
theorem c_fmtB10 {w0 : World} {m : Mem} {i n u : Nat} {cs : List Value} {E : TypeId} {Q : Value → Mem → Prop} (hg : m.get i = .own cs E) (hn : n = Lib.nDigits u) (hl : n ≤ cs.length) (hz : ∀ j, j < n → cs[j]? = some (.int .u8 0)) (hu : 1 ≤ u ∧ u < 18446744073709551616)
    (hq : Q (.tuple ⟨[]⟩) (m.set i (.own ((digs 10 u).map byteV ++ cs.drop n) E))) : AbC Tryd.prog w0 50 [.slice (some ⟨i, 0, none⟩) n 1, .int .u64 (u : Int)] m Q := by
  intro G w args' hs hargs
  have hnd : n ≤ 20 := by have := Lib.numDigits_eq u hu.1 hu.2; split at this <;> omega
  have hn1 : 1 ≤ n := by rw [hn, ← Lib.decDigits_length, dec_digs]; exact digs_pos _ _
  cases hargs with
  | cons _ a1 _ r1 h1 hr =>
  cases hr with
  | cons _ a2 _ r2 h2 hr =>
  cases hr
  cases h2
  cases h1 with
  | sl _ _ B b S _ cp _ hgi hnc hcm hS =>
  rw [run_callFunc_enter (by kernel_rfl)]
  show Calls _ _ _ _ _
  obtain ⟨hB, c, fz, hw, hcS, hop, hcell, hlen⟩ := own_get hs hgi hg
  have hlen := hlen (by omega)
  simp only [Nat.add_zero]
  have hH : Holds (fun (b : UInt8) => Value.int .u8 (b.toNat : Int)) w B b (Array.replicate n 0) := by
    intro j hj
    rw [Array.size_replicate] at hj
    obtain ⟨v', hv1, hv2⟩ := hcell j _ (hz j hj)
    cases hv2
    refine ⟨?_, cells_frozen hw hop _ (by omega)⟩
    simp only [World.cell?, hw, Option.isSome_none, Bool.false_eq_true, if_false, hv1]
    rw [getElem!_pos _ j (by simpa using hj), Array.getElem_replicate]; rfl
  have key := Tryd.internal_strconv_formatBase10 B b cp u (Array.replicate n 0) w hH (by rw [Array.size_replicate, hn]; exact Lib.lt_pow_nDigits u) hu.2 (by rw [Array.size_replicate]; omega)
  rw [Array.size_replicate] at key
  refine key.mono ?_
  rintro e w' ⟨rfl, k, v', dk, rfl, hF⟩
  have hdk : dk.size = n := hF.size
  have hst : St Tryd.prog w0 G (m.set i (.own ((digs 10 u).map byteV ++ cs.drop n) E)) ((putRow (fun (b : UInt8) => Value.int .u8 (b.toNat : Int)) w B b dk).drewN k) := by
    have hw' : ((putRow (fun (b : UInt8) => Value.int .u8 (b.toNat : Int)) w B b dk).drewN k).heap[B]? = some (.cells (putCells (fun (b : UInt8) => Value.int .u8 (b.toNat : Int)) b dk c) E fz) := by
      show (w.heap.modify B _)[B]? = _
      rw [Array.getElem?_modify]
      simp [hw, onCells]
    refine hs.write (e := .own ((digs 10 u).map byteV ++ cs.drop n) E) (by rw [hg]; rfl) hgi rfl rfl rfl (by simp [World.drewN]) (fun q hq => ?_) ⟨hB, _, fz, hw', by simp [putCells, hcS], by simpa [putCells] using hop, fun j v hj => ?_⟩ (fun cs' e' he => by cases he; exact ⟨cs, hg⟩)
    · show (w.heap.modify B _)[q]? = _
      rw [Array.getElem?_modify, if_neg (fun e => hq e.symm)]
    · have hdl : (digs 10 u).length = n := by rw [← dec_digs, Lib.decDigits_length, hn]
      rw [List.getElem?_append] at hj
      by_cases hjn : j < n
      · rw [if_pos (by simpa [hdl] using hjn), List.getElem?_map] at hj
        have hjd : j < (digs 10 u).length := by omega
        rw [List.getElem?_eq_getElem hjd] at hj
        simp at hj; subst hj
        refine ⟨_, ?_, .int _ _⟩
        have hjc : b + j < c.size := by omega
        have hnum := Lib.row_is_numeral (u := u) (v' := v') (dk := dk) (by rw [← hn]; exact hF) j (by rw [Lib.decDigits_length, ← hn]; exact hjn)
        have hd2 : (digs 10 u)[j] = dk[j]! := by rw [← hnum]; congr 1; exact (dec_digs u).symm
        simp only [putCells, Array.getElem?_mapIdx]
        rw [Array.getElem?_eq_getElem hjc]
        simp only [Option.map_some]
        rw [if_pos (by omega), Nat.add_sub_cancel_left, hd2]
      · rw [if_neg (by simpa [hdl] using hjn), List.length_map, hdl, List.getElem?_drop, show n + (j - n) = j from by omega] at hj
        obtain ⟨v2, hv1, hv2⟩ := hcell j v hj
        refine ⟨v2, ?_, hv2⟩
        simp only [putCells, Array.getElem?_mapIdx, hv1, Option.map_some]
        rw [if_neg (by omega)]
  exact ⟨_, rfl, G, _, _, Loc.le_refl G, .tuple _ _ .nil, hst, hq⟩

theorem bstr_pre {m : Mem} {i n : Nat} {E : TypeId} {l : List UInt8} {r : List Value} (h : m.get i = .own (l.map byteV ++ r) E) (hl : l.length = n) : bstr m (.slice (some ⟨i, 0, none⟩) n 1) = some (.string ⟨⟨l⟩⟩) := by
  subst hl
  have h1 : (l.map byteV ++ r).take l.length = l.map byteV := by
    rw [List.take_append_of_le_length (by simp)]; exact List.take_of_length_le (by simp)
  simp only [bstr, Mem.row_own h, Nat.zero_add, List.drop_zero, h1]
  rw [if_pos (by simp)]
  simp only [bytesOf_mapN]

theorem c_FormatUint {w0 : World} {m : Mem} {B u : Nat} {Q : Value → Mem → Prop} (hp : Part L0 m) (ht : Ten w0) (hB : B = 10 ∨ B = 16) (hu : u < 18446744073709551616) (hq : ∀ m', Old m m' → Q (.string ⟨⟨digs B u⟩⟩) m') : AbC Tryd.prog w0 27 [.int .u64 (u : Int), .int .i64 (B : Int)] m Q := by
  refine AbC_fn ok27 (by simp) ?_
  simp -implicitDefEqProofs (disch := first | assumption | (simp only [wnA]; done) | (simp only [wnA]; omega) | omega | fail) [rc27, ro27, wkA, retV, stabOk, dC, ev, fillD, pickCells, putAt, bnd, slD, List.getElem?_cons_zero, List.getElem?_cons_succ, dR_sl, Mem.cell, Mem.row, wmA]
  refine AbC_fn ok39 (by simp) ?_
  rcases hB with rfl | rfl
  · by_cases h100 : u < 100
    · have h1 : (u : Int) < 100 := by omega
      have w1 : IntKind.i64.wrap (u : Int) = (u : Int) := w64 (by omega)
      simp -implicitDefEqProofs (disch := first | assumption | (simp only [wnA]; done) | (simp only [wnA]; omega) | omega | fail) [rc39, ro39, wkA, retV, stabOk, dC, ev, fillD, pickCells, putAt, bnd, slD, List.getElem?_cons_zero, List.getElem?_cons_succ, dR_sl, Mem.cell, Mem.row, wmA, h1, w1]
      refine c_calls (v := .string ⟨⟨digs 10 u⟩⟩) (by kernel_rfl) rfl rfl (fun G w hs => ?_) ?_
      · refine (Tryd.internal_strconv_small u h100 w).mono ?_
        rintro e w' ⟨rfl, rfl⟩
        exact ⟨by rw [dec_digs], Below.refl _ _⟩
      · simp -implicitDefEqProofs (disch := first | assumption | (simp only [wnA]; done) | (simp only [wnA]; omega) | omega | fail) [wkA, retV, stabOk, dC, ev, fillD, pickCells, putAt, bnd, slD, List.getElem?_cons_zero, List.getElem?_cons_succ, dR_sl, Mem.cell, Mem.row, wmA]
        exact hq m (Old.refl m)
    · have h1 : ¬ (u : Int) < 100 := by omega
      have hnd : Lib.nDigits u ≤ 20 := by have := Lib.numDigits_eq u (by omega) hu; split at this <;> omega
      have hdl : (digs 10 u).length = Lib.nDigits u := by rw [← dec_digs, Lib.decDigits_length]
      have hn1 := digs_pos 10 u
      simp -implicitDefEqProofs (disch := first | assumption | (simp only [wnA]; done) | (simp only [wnA]; omega) | omega | fail) [rc39, ro39, rc39_0, wkA, retV, stabOk, dC, ev, fillD, pickCells, putAt, bnd, slD, List.getElem?_cons_zero, List.getElem?_cons_succ, dR_sl, Mem.cell, Mem.row, wmA, h1]
      refine c_calls (v := .int .i64 (Lib.nDigits u)) (by kernel_rfl) rfl rfl (fun G w hs => ?_) ?_
      · refine (Tryd.internal_strconv_numDigits u (by omega) hu w (tab_at ht hs)).mono ?_
        rintro e w' ⟨rfl, rfl⟩
        exact ⟨rfl, Below.refl _ _⟩
      · generalize hN : Lib.nDigits u = n at *
        have hi : (0 : Int) ≤ (n : Int) ∧ (n : Int) ≤ 24 := by omega
        have hn0 : n ≠ 0 := by omega
        have hn24 : n ≤ 24 := by omega
        simp -implicitDefEqProofs (disch := first | assumption | (simp only [wnA]; done) | (simp only [wnA]; omega) | omega | fail) [wkA, retV, stabOk, dC, ev, fillD, pickCells, putAt, bnd, slD, List.getElem?_cons_zero, List.getElem?_cons_succ, dR_sl, Mem.cell, Mem.row, wmA, hi, hn24]
        refine c_fmtB10 (Mem.push_same m _) hN.symm (by simp; omega) (fun j hj => ?_) ⟨by omega, hu⟩ ?_
        · have hj24 : j < 24 := by omega
          have : ∀ k : Fin 24, (List.replicate 24 (Value.int .u8 0))[k.val]? = some (Value.int .u8 0) := fun k => by rw [List.getElem?_replicate, if_pos k.isLt]
          exact this ⟨j, hj24⟩
        · have hgo : ∀ (M : Mem), M.get m.next = .own ((digs 10 u).map byteV ++ (List.replicate 24 (Value.int .u8 0)).drop n) 106 → (((digs 10 u).map byteV ++ (List.replicate 24 (Value.int .u8 0)).drop n).length = 24) → True := fun _ _ _ => trivial
          have hlen24 : ((digs 10 u).map byteV ++ (List.replicate 24 (Value.int .u8 0)).drop n).length = 24 := by
            rw [List.length_append, List.length_map, List.length_drop, List.length_replicate, hdl]; omega
          have ho : ∀ E1 E2, Old m ((m.push E1).set m.next E2) := fun E1 E2 => ((Old.refl m).push E1).set (Nat.le_refl _) E2
          have hbs : ∀ E1, bstr ((m.push E1).set m.next (.own ((digs 10 u).map byteV ++ (List.replicate 24 (Value.int .u8 0)).drop n) 106)) (.slice (some ⟨m.next, 0, none⟩) n 1) = some (.string ⟨⟨digs 10 u⟩⟩) := fun E1 => bstr_pre (Mem.set_same _ _ _) hdl
          have hrep : (List.replicate 24 (Value.int .u8 0)) = [.int .u8 0, .int .u8 0, .int .u8 0, .int .u8 0, .int .u8 0, .int .u8 0, .int .u8 0, .int .u8 0, .int .u8 0, .int .u8 0, .int .u8 0, .int .u8 0, .int .u8 0, .int .u8 0, .int .u8 0, .int .u8 0, .int .u8 0, .int .u8 0, .int .u8 0, .int .u8 0, .int .u8 0, .int .u8 0, .int .u8 0, .int .u8 0] := rfl
          rw [hrep] at hlen24 hbs
          generalize hR : (digs 10 u).map byteV ++ List.drop n [.int .u8 0, .int .u8 0, .int .u8 0, .int .u8 0, .int .u8 0, .int .u8 0, .int .u8 0, .int .u8 0, .int .u8 0, .int .u8 0, .int .u8 0, .int .u8 0, .int .u8 0, .int .u8 0, .int .u8 0, .int .u8 0, .int .u8 0, .int .u8 0, .int .u8 0, .int .u8 0, .int .u8 0, .int .u8 0, .int .u8 0, .int .u8 0] = R at *
          simp -implicitDefEqProofs (disch := first | assumption | (simp only [wnA]; done) | (simp only [wnA]; omega) | omega | fail) [wkA, retV, stabOk, dC, ev, fillD, pickCells, putAt, bnd, slD, List.getElem?_cons_zero, List.getElem?_cons_succ, dR_sl, Mem.cell, Mem.row, wmA, hi, hn24, hlen24, hbs]
          exact hq _ (ho _ _)
  · simp -implicitDefEqProofs (disch := first | assumption | (simp only [wnA]; done) | (simp only [wnA]; omega) | omega | fail) [rc39, ro39, wkA, retV, stabOk, dC, ev, fillD, pickCells, putAt, bnd, slD, List.getElem?_cons_zero, List.getElem?_cons_succ, dR_sl, Mem.cell, Mem.row, wmA, rc39_1]
    refine c_fmtBits (B := 16) (k := 4) (a := u) (neg := false) hp rfl (by omega) (by omega) hu (by simp) pow16 tz16 fun m' ho => ?_
    simp -implicitDefEqProofs (disch := first | assumption | (simp only [wnA]; done) | (simp only [wnA]; omega) | omega | fail) [wkA, retV, stabOk, dC, ev, fillD, pickCells, putAt, bnd, slD, List.getElem?_cons_zero, List.getElem?_cons_succ, dR_sl, Mem.cell, Mem.row, wmA]
    exact hq m' ho
end Go.Proofs.YtgfkjldohilmkaaDoor.Ab

set_option linter.unusedVariables false
set_option linter.unusedSimpArgs false
namespace Go.Proofs.YtgfkjldohilmkaaDoor.Ab
open Go Go.RowKit

def isLet (c : UInt8) : Bool := decide (97 ≤ c.toNat) && decide (c.toNat ≤ 122)
def isDig (c : UInt8) : Bool := decide (48 ≤ c.toNat) && decide (c.toNat ≤ 57)
def isHx (c : UInt8) : Bool := decide (97 ≤ c.toNat) && decide (c.toNat ≤ 102)
/-- May a byte stand in a word: at its beginning, behind it? -/
def wq (b : Bool) (c : UInt8) : Bool := isLet c || (b && (isDig c || c.toNat == 45))
def wordN : Bool → List UInt8 → Nat
  | _, [] => 0
  | b, c :: r => if wq b c then wordN true r + 1 else 0
def inB (B : Nat) (c : UInt8) : Bool := isDig c || (B == 16 && isHx c)
def runN (p : UInt8 → Bool) : List UInt8 → Nat
  | [] => 0
  | c :: r => if p c then runN p r + 1 else 0
def hexH : List UInt8 → Bool
  | a :: b :: _ => a.toNat == 48 && b.toNat == 120
  | _ => false
def nB (l : List UInt8) : Nat := if hexH l then 16 else 10
def nF (l : List UInt8) : Nat := if hexH l then 2 else 0
def nN (l : List UInt8) : Nat := nF l + runN (inB (nB l)) (l.drop (nF l))
def nDs (l : List UInt8) : List UInt8 := (l.take (nN l)).drop (nF l)
def numV (l : List UInt8) : Option Nat := match puL (nB l) 4294967295 0 (nDs l) with
  | some v => if digs (nB l) v = nDs l ∧ wordN false (l.drop (nN l)) = 0 then some v else none
  | none => none
def escD (c : UInt8) : Option UInt8 := if c.toNat = 92 then some 92 else if c.toNat = 34 then some 34 else if c.toNat = 114 then some 13 else if c.toNat = 110 then some 10 else none
/-- What stands in quotes, behind the first one: how long it is, and its bytes. -/
def qd : List UInt8 → Option (Nat × List UInt8)
  | [] => none
  | [c] => if c.toNat = 34 then some (1, []) else none
  | c :: e :: r => if c.toNat = 34 then some (1, []) else if c.toNat < 32 ∨ 126 < c.toNat then none
    else if c.toNat = 92 then (match escD e with
      | some x => (qd r).map fun p => (p.1 + 2, x :: p.2)
      | none => none)
    else (qd (e :: r)).map fun p => (p.1 + 1, c :: p.2)
structure Tk where
  kd : Int
  tx : List UInt8
  vl : Int
def Tk.cells (t : Tk) (a : Nat) : List Value := [.int .i64 t.kd, .string ⟨⟨t.tx⟩⟩, .int .i64 t.vl, .int .i64 (a : Int)]
def isSg (c : UInt8) : Bool := c.toNat == 58 || c.toNat == 59 || c.toNat == 44 || c.toNat == 123 || c.toNat == 125
def isBl (c : UInt8) : Bool := c.toNat == 32 || c.toNat == 9 || c.toNat == 10
def oneL : List UInt8 → Option (Tk × Nat)
  | [] => none
  | c :: r => if isLet c then some (⟨1, (c :: r).take (wordN false (c :: r)), 0⟩, wordN false (c :: r))
    else if isDig c then (numV (c :: r)).map fun v => ((⟨2, (c :: r).take (nN (c :: r)), ((v : Nat) : Int)⟩ : Tk), nN (c :: r))
    else if c.toNat = 34 then (qd r).map fun p => (⟨3, p.2, 0⟩, p.1 + 1)
    else if isSg c then some (⟨4, [c], 0⟩, 1) else none
def no10 (c : UInt8) : Bool := c.toNat != 10
def endT : Tk := ⟨0, [], 0⟩
abbrev Cuts := Nat ⊕ List (Tk × Nat)
def preC (ts : List (Tk × Nat)) : Cuts → Cuts
  | .inl e => .inl e
  | .inr us => .inr (ts ++ us)
def cutF : Nat → Nat → List UInt8 → Cuts
  | 0, a, _ => .inr [(endT, a)]
  | _ + 1, a, [] => .inr [(endT, a)]
  | k + 1, a, c :: r => if isBl c then cutF k (a + 1) r
    else if c.toNat = 35 then cutF k (a + runN no10 (c :: r)) ((c :: r).drop (runN no10 (c :: r)))
    else match oneL (c :: r) with
      | none => .inl a
      | some (t, n) => preC [(t, a)] (cutF k (a + n) ((c :: r).drop n))
def cutL (a : Nat) (l : List UInt8) : Cuts := cutF l.length a l

theorem wordN_le : ∀ (b : Bool) (l : List UInt8), wordN b l ≤ l.length
  | _, [] => Nat.le_refl _
  | b, c :: r => by
    simp only [wordN]
    split
    · have := wordN_le true r; simp; omega
    · simp
theorem runN_le (p : UInt8 → Bool) : ∀ (l : List UInt8), runN p l ≤ l.length
  | [] => Nat.le_refl _
  | c :: r => by
    simp only [runN]
    split
    · have := runN_le p r; simp; omega
    · simp
theorem hexH_len {l : List UInt8} (h : hexH l = true) : 2 ≤ l.length := by
  unfold hexH at h
  split at h
  · simp
  · cases h
theorem nF_le (l : List UInt8) : nF l ≤ l.length := by
  unfold nF
  split
  · exact hexH_len ‹_›
  · simp
theorem nN_le (l : List UInt8) : nN l ≤ l.length := by
  have h1 := runN_le (inB (nB l)) (l.drop (nF l))
  have h2 := nF_le l
  rw [List.length_drop] at h1
  unfold nN; omega
theorem nN_pos {c : UInt8} {r : List UInt8} (h : isDig c = true) : 1 ≤ nN (c :: r) := by
  unfold nN nF
  split
  · omega
  · simp [runN, inB, h]
theorem qd_len : ∀ {l : List UInt8} {n : Nat} {t : List UInt8}, qd l = some (n, t) → 1 ≤ n ∧ n ≤ l.length
  | [], n, t, h => by simp [qd] at h
  | [c], n, t, h => by
    simp only [qd] at h
    split at h
    · simp at h; simp; omega
    · cases h
  | c :: e :: r, n, t, h => by
    simp only [qd] at h
    split at h
    · simp at h; simp; omega
    · split at h
      · cases h
      · split at h
        · split at h
          · rename_i x hx
            cases hq : qd r with
            | none => simp [hq] at h
            | some p =>
              obtain ⟨a, b⟩ := p
              simp [hq] at h
              have := qd_len hq
              simp; omega
          · cases h
        · cases hq : qd (e :: r) with
          | none => simp [hq] at h
          | some p =>
            obtain ⟨a, b⟩ := p
            simp [hq] at h
            have := qd_len hq
            simp at this ⊢; omega
theorem oneL_len {l : List UInt8} {t : Tk} {n : Nat} (h : oneL l = some (t, n)) : 1 ≤ n ∧ n ≤ l.length := by
  cases l with
  | nil => simp [oneL] at h
  | cons c r =>
    simp only [oneL] at h
    split at h
    · rename_i hc
      simp at h
      have h1 := wordN_le false (c :: r)
      have h2 : 1 ≤ wordN false (c :: r) := by simp [wordN, wq, hc]
      omega
    · split at h
      · rename_i hc
        cases hv : numV (c :: r) with
        | none => simp [hv] at h
        | some v =>
          simp [hv] at h
          have h1 := nN_le (c :: r)
          have h2 := nN_pos (r := r) hc
          omega
      · split at h
        · cases hq : qd r with
          | none => simp [hq] at h
          | some p =>
            obtain ⟨a, b⟩ := p
            simp [hq] at h
            have := qd_len hq
            simp; omega
        · split at h
          · simp at h; simp; omega
          · cases h
theorem run_cm {c : UInt8} {r : List UInt8} (h : c.toNat = 35) : 1 ≤ runN no10 (c :: r) := by
  simp [runN, no10, h]
theorem cutF_fuel : ∀ (k k' a : Nat) (l : List UInt8), l.length ≤ k → l.length ≤ k' → cutF k a l = cutF k' a l
  | 0, k', a, [], _, _ => by cases k' <;> rfl
  | 0, _, _, _ :: _, h, _ => by simp at h
  | k + 1, 0, a, [], _, _ => rfl
  | _, 0, _, _ :: _, _, h => by simp at h
  | k + 1, k' + 1, a, [], _, _ => rfl
  | k + 1, k' + 1, a, c :: r, h, h' => by
    simp at h h'
    simp only [cutF]
    split
    · exact cutF_fuel k k' _ r h h'
    · split
      · have := run_cm (r := r) ‹_›
        exact cutF_fuel k k' _ _ (by rw [List.length_drop]; simp; omega) (by rw [List.length_drop]; simp; omega)
      · split
        · rfl
        · rename_i t n ho
          have := oneL_len ho
          rw [cutF_fuel k k' _ _ (by rw [List.length_drop]; simp; omega) (by rw [List.length_drop]; simp; omega)]
theorem cutL_nil (a : Nat) : cutL a [] = .inr [(endT, a)] := rfl
theorem cutL_bl {c : UInt8} {a : Nat} {r : List UInt8} (h : isBl c = true) : cutL a (c :: r) = cutL (a + 1) r := by
  show cutF (r.length + 1) a (c :: r) = _
  simp only [cutF, h, if_true]
  rfl
theorem cutL_cm {c : UInt8} {a : Nat} {r : List UInt8} (h : isBl c = false) (h2 : c.toNat = 35) : cutL a (c :: r) = cutL (a + runN no10 (c :: r)) ((c :: r).drop (runN no10 (c :: r))) := by
  show cutF (r.length + 1) a (c :: r) = _
  have := run_cm (r := r) h2
  simp only [cutF, h, Bool.false_eq_true, if_false, h2, if_true]
  exact cutF_fuel _ _ _ _ (by rw [List.length_drop]; simp; omega) (by rw [List.length_drop]; exact Nat.le_refl _)
theorem cutL_none {c : UInt8} {a : Nat} {r : List UInt8} (h : isBl c = false) (h2 : c.toNat ≠ 35) (h3 : oneL (c :: r) = none) : cutL a (c :: r) = .inl a := by
  show cutF (r.length + 1) a (c :: r) = _
  simp only [cutF, h, Bool.false_eq_true, if_false, h2, h3]
theorem cutL_some {c : UInt8} {a n : Nat} {t : Tk} {r : List UInt8} (h : isBl c = false) (h2 : c.toNat ≠ 35) (h3 : oneL (c :: r) = some (t, n)) : cutL a (c :: r) = preC [(t, a)] (cutL (a + n) ((c :: r).drop n)) := by
  show cutF (r.length + 1) a (c :: r) = _
  have := oneL_len h3
  simp only [cutF, h, Bool.false_eq_true, if_false, h2, h3]
  unfold cutL
  rw [cutF_fuel r.length ((c :: r).drop n).length _ _ (by rw [List.length_drop]; simp at *; omega) (Nat.le_refl _)]
theorem preC_pre (a b : List (Tk × Nat)) (c : Cuts) : preC a (preC b c) = preC (a ++ b) c := by
  cases c <;> simp [preC]
theorem preC_nil (c : Cuts) : preC [] c = c := by cases c <;> rfl
end Go.Proofs.YtgfkjldohilmkaaDoor.Ab
/- The tokens of a text: letters, digits, words, signs. -/
set_option linter.unusedVariables false
set_option linter.unusedSimpArgs false
namespace Go.Proofs.YtgfkjldohilmkaaDoor.Ab
open Go Go.RowKit
set_option maxHeartbeats 1000000
set_option maxRecDepth 100000

theorem allB {p : UInt8 → Bool} (h : ∀ n : Fin 256, p (UInt8.ofNat n.val) = true) (c : UInt8) : p c = true := by
  have := h ⟨c.toNat, c.toNat_lt⟩
  simpa using this
theorem c_letter {w0 : World} {m : Mem} {c : UInt8} {Q : Value → Mem → Prop} (hq : Q (.bool (isLet c)) m) : AbC Tryd.prog w0 52 [.int .u8 (c.toNat : Int)] m Q := by
  refine AbC_fn ok52 (by simp) ?_
  have hq' := fun b (h : isLet c = b) => h ▸ hq
  simp only [isLet] at hq'
  by_cases h1 : 97 ≤ c.toNat
  · have i1 : (97 : Int) ≤ (c.toNat : Int) := by omega
    by_cases h2 : c.toNat ≤ 122
    · have i2 : (c.toNat : Int) ≤ 122 := by omega
      simp -implicitDefEqProofs (disch := first | assumption | (simp only [wnA]; done) | (simp only [wnA]; omega) | omega | fail) [rc52, ro52, wkA, retV, stabOk, dC, ev, fillD, pickCells, putAt, bnd, slD, List.getElem?_cons_zero, List.getElem?_cons_succ, dR.eq_20, Mem.cell, Mem.row, wmA, i1, i2]
      exact hq' _ (by simp [h1, h2])
    · have i2 : ¬ (c.toNat : Int) ≤ 122 := by omega
      simp -implicitDefEqProofs (disch := first | assumption | (simp only [wnA]; done) | (simp only [wnA]; omega) | omega | fail) [rc52, ro52, wkA, retV, stabOk, dC, ev, fillD, pickCells, putAt, bnd, slD, List.getElem?_cons_zero, List.getElem?_cons_succ, dR.eq_20, Mem.cell, Mem.row, wmA, i1, i2]
      exact hq' _ (by simp [h1, h2])
  · have i1 : ¬ (97 : Int) ≤ (c.toNat : Int) := by omega
    simp -implicitDefEqProofs (disch := first | assumption | (simp only [wnA]; done) | (simp only [wnA]; omega) | omega | fail) [rc52, ro52, wkA, retV, stabOk, dC, ev, fillD, pickCells, putAt, bnd, slD, List.getElem?_cons_zero, List.getElem?_cons_succ, dR.eq_20, Mem.cell, Mem.row, wmA, i1]
    exact hq' _ (by simp [h1])
theorem c_digit {w0 : World} {m : Mem} {c : UInt8} {Q : Value → Mem → Prop} (hq : Q (.bool (isDig c)) m) : AbC Tryd.prog w0 54 [.int .u8 (c.toNat : Int)] m Q := by
  refine AbC_fn ok54 (by simp) ?_
  have hq' := fun b (h : isDig c = b) => h ▸ hq
  simp only [isDig] at hq'
  by_cases h1 : 48 ≤ c.toNat
  · have i1 : (48 : Int) ≤ (c.toNat : Int) := by omega
    by_cases h2 : c.toNat ≤ 57
    · have i2 : (c.toNat : Int) ≤ 57 := by omega
      simp -implicitDefEqProofs (disch := first | assumption | (simp only [wnA]; done) | (simp only [wnA]; omega) | omega | fail) [rc54, ro54, wkA, retV, stabOk, dC, ev, fillD, pickCells, putAt, bnd, slD, List.getElem?_cons_zero, List.getElem?_cons_succ, dR.eq_20, Mem.cell, Mem.row, wmA, i1, i2]
      exact hq' _ (by simp [h1, h2])
    · have i2 : ¬ (c.toNat : Int) ≤ 57 := by omega
      simp -implicitDefEqProofs (disch := first | assumption | (simp only [wnA]; done) | (simp only [wnA]; omega) | omega | fail) [rc54, ro54, wkA, retV, stabOk, dC, ev, fillD, pickCells, putAt, bnd, slD, List.getElem?_cons_zero, List.getElem?_cons_succ, dR.eq_20, Mem.cell, Mem.row, wmA, i1, i2]
      exact hq' _ (by simp [h1, h2])
  · have i1 : ¬ (48 : Int) ≤ (c.toNat : Int) := by omega
    simp -implicitDefEqProofs (disch := first | assumption | (simp only [wnA]; done) | (simp only [wnA]; omega) | omega | fail) [rc54, ro54, wkA, retV, stabOk, dC, ev, fillD, pickCells, putAt, bnd, slD, List.getElem?_cons_zero, List.getElem?_cons_succ, dR.eq_20, Mem.cell, Mem.row, wmA, i1]
    exact hq' _ (by simp [h1])

theorem at_S {S : ByteArray} {j : Nat} {c : UInt8} {r : List UInt8} (h : S.data.toList.drop j = c :: r) : j < S.size ∧ S[j]? = some c ∧ S.data.toList.drop (j + 1) = r := by
  have hl : S.data.toList.length = S.size := by simp
  have h1 := congrArg List.length h
  rw [List.length_drop] at h1
  simp only [List.length_cons] at h1
  have hlt : j < S.data.toList.length := by omega
  refine ⟨by omega, ?_, ?_⟩
  · have e : S = ⟨⟨S.data.toList⟩⟩ := rfl
    rw [e, ba_idx]
    have := List.drop_eq_getElem_cons hlt
    rw [h] at this
    simp only [List.cons.injEq] at this
    rw [List.getElem?_eq_getElem hlt, ← this.1]
  · have := List.drop_eq_getElem_cons hlt
    rw [h] at this
    simp only [List.cons.injEq] at this
    exact this.2.symm
theorem drop_nil {S : ByteArray} {j : Nat} (h : S.data.toList.drop j = []) (hj : j ≤ S.size) : j = S.size := by
  have hl : S.data.toList.length = S.size := by simp
  have h1 := congrArg List.length h
  rw [List.length_drop] at h1
  simp only [List.length_nil] at h1
  omega

theorem c_word {w0 : World} {m : Mem} {S : ByteArray} {Q : Value → Mem → Prop} (hs : S.size ≤ 140737488355328) (hq : Q (.int .i64 (wordN false S.data.toList : Nat)) m) : AbC Tryd.prog w0 53 [.string S] m Q := by
  refine AbC_fn ok53 (by simp) ?_
  simp -implicitDefEqProofs (disch := first | assumption | (simp only [wnA]; done) | (simp only [wnA]; omega) | omega | fail) [rc53, ro53, wkA, retV, stabOk, dC, ev, fillD, pickCells, putAt, bnd, slD, List.getElem?_cons_zero, List.getElem?_cons_succ, dR.eq_20, Mem.cell, Mem.row, wmA]
  refine LoopW_of (fun k ts m' => ∃ j, j + k = S.size ∧ m' = m ∧ ts 0 = .string S ∧ ts 3 = .int .i64 (j : Nat) ∧ wordN false S.data.toList = j + wordN (decide (0 < j)) (S.data.toList.drop j)) S.size ?_ ?_
  · exact ⟨0, by omega, rfl, by simp [frA_at], by simp, by simp⟩
  · rintro k ts m2 K ⟨j, hj, rfl, t0, t3, hw⟩ hK
    have hend : wordN (decide (0 < j)) (S.data.toList.drop j) = 0 → Q (.int .i64 (j : Nat)) m2 := fun h => by
      rw [h, Nat.add_zero] at hw
      rw [hw] at hq; exact hq
    simp -implicitDefEqProofs (disch := first | assumption | (simp only [wnA]; done) | (simp only [wnA]; omega) | omega | fail) [rc53_1, wkA, retV, stabOk, dC, ev, fillD, pickCells, putAt, bnd, slD, List.getElem?_cons_zero, List.getElem?_cons_succ, dR.eq_20, Mem.cell, Mem.row, wmA, t0, t3]
    rcases hd : S.data.toList.drop j with _ | ⟨c, r⟩
    · have hjj := drop_nil hd (by omega)
      have hn : ¬ j < S.size := by omega
      simp -implicitDefEqProofs (disch := first | assumption | (simp only [wnA]; done) | (simp only [wnA]; omega) | omega | fail) [wkA, retV, stabOk, dC, ev, fillD, pickCells, putAt, bnd, slD, List.getElem?_cons_zero, List.getElem?_cons_succ, dR.eq_20, Mem.cell, Mem.row, wmA, t0, t3, hn, rc53_2]
      exact hend (by rw [hd]; rfl)
    · obtain ⟨hlt, g1, hr⟩ := at_S hd
      rw [hd] at hw hend
      have next : wq (decide (0 < j)) c = true → ∀ ts' : Fr, ts' 0 = ts 0 → ts' 3 = .int .i64 ((j + 1 : Nat) : Int) → K ts' m2 := fun h ts' e0 e3 =>
        hK (k - 1) ts' m2 (by omega) ⟨j + 1, by omega, rfl, by rw [e0, t0], e3, by
          rw [hw, hr]
          simp only [wordN, h, if_true, Nat.zero_lt_succ, decide_true]
          omega⟩
      have stop : wq (decide (0 < j)) c = false → Q (.int .i64 (j : Nat)) m2 := fun h => hend (by simp [wordN, h])
      simp -implicitDefEqProofs (disch := first | assumption | (simp only [wnA]; done) | (simp only [wnA]; omega) | omega | fail) [wkA, retV, stabOk, dC, ev, fillD, pickCells, putAt, bnd, slD, List.getElem?_cons_zero, List.getElem?_cons_succ, dR.eq_20, Mem.cell, Mem.row, wmA, t0, t3, hlt, g1, getOf g1]
      refine c_letter ?_
      have w1 : IntKind.i64.wrap ((j : Int) + 1) = ((j + 1 : Nat) : Int) := by rw [w64 (by omega)]; omega
      cases hle : isLet c with
      | true =>
        simp -implicitDefEqProofs (disch := first | assumption | (simp only [wnA]; done) | (simp only [wnA]; omega) | omega | fail) [wkA, retV, stabOk, dC, ev, fillD, pickCells, putAt, bnd, slD, List.getElem?_cons_zero, List.getElem?_cons_succ, dR.eq_20, Mem.cell, Mem.row, wmA, t3, rc53_0, w1]
        exact next (by simp [wq, hle]) _ (by simp) (by simp)
      | false =>
        by_cases hj0 : 0 < j
        · have hj0' : (0 : Int) < (j : Int) := by omega
          simp -implicitDefEqProofs (disch := first | assumption | (simp only [wnA]; done) | (simp only [wnA]; omega) | omega | fail) [wkA, retV, stabOk, dC, ev, fillD, pickCells, putAt, bnd, slD, List.getElem?_cons_zero, List.getElem?_cons_succ, dR.eq_20, Mem.cell, Mem.row, wmA, t0, t3, hj0, hj0', g1, getOf g1, hlt]
          refine c_digit ?_
          cases hdi : isDig c with
          | true =>
            simp -implicitDefEqProofs (disch := first | assumption | (simp only [wnA]; done) | (simp only [wnA]; omega) | omega | fail) [wkA, retV, stabOk, dC, ev, fillD, pickCells, putAt, bnd, slD, List.getElem?_cons_zero, List.getElem?_cons_succ, dR.eq_20, Mem.cell, Mem.row, wmA, t3, rc53_0, w1]
            exact next (by simp [wq, hle, hdi, hj0]) _ (by simp) (by simp)
          | false =>
            by_cases h45 : c.toNat = 45
            · have i45 : (c.toNat : Int) = 45 := by omega
              simp -implicitDefEqProofs (disch := first | assumption | (simp only [wnA]; done) | (simp only [wnA]; omega) | omega | fail) [wkA, retV, stabOk, dC, ev, fillD, pickCells, putAt, bnd, slD, List.getElem?_cons_zero, List.getElem?_cons_succ, dR.eq_20, Mem.cell, Mem.row, wmA, t0, t3, g1, getOf g1, hlt, i45, rc53_0, w1]
              exact next (by simp [wq, hle, hdi, hj0, h45]) _ (by simp) (by simp)
            · have i45 : ¬ (c.toNat : Int) = 45 := by omega
              simp -implicitDefEqProofs (disch := first | assumption | (simp only [wnA]; done) | (simp only [wnA]; omega) | omega | fail) [wkA, retV, stabOk, dC, ev, fillD, pickCells, putAt, bnd, slD, List.getElem?_cons_zero, List.getElem?_cons_succ, dR.eq_20, Mem.cell, Mem.row, wmA, t0, t3, g1, getOf g1, hlt, beqF i45, rc53_2]
              exact stop (by simp [wq, hle, hdi, h45])
        · have hj0' : ¬ (0 : Int) < (j : Int) := by omega
          simp -implicitDefEqProofs (disch := first | assumption | (simp only [wnA]; done) | (simp only [wnA]; omega) | omega | fail) [wkA, retV, stabOk, dC, ev, fillD, pickCells, putAt, bnd, slD, List.getElem?_cons_zero, List.getElem?_cons_succ, dR.eq_20, Mem.cell, Mem.row, wmA, t0, t3, hj0, hj0', rc53_2]
          exact stop (by simp [wq, hle, hj0])
end Go.Proofs.YtgfkjldohilmkaaDoor.Ab
/- The tokens of a text: numbers. -/
set_option linter.unusedVariables false
set_option linter.unusedSimpArgs false
namespace Go.Proofs.YtgfkjldohilmkaaDoor.Ab
open Go Go.RowKit
set_option maxHeartbeats 1000000
set_option maxRecDepth 100000

theorem c_iByte {w0 : World} {m : Mem} {s : ByteArray} {c : UInt8} {Q : Value → Mem → Prop} (hq : Q (.int .i64 (Lib.indexByte s.data.toList c)) m) : AbC Tryd.prog w0 57 [.string s, .int .u8 (c.toNat : Int)] m Q := by
  refine AbC_fn ok57 (by simp) ?_
  simp -implicitDefEqProofs (disch := first | assumption | (simp only [wnA]; done) | (simp only [wnA]; omega) | omega | fail) [rc57, ro57, wkA, retV, stabOk, dC, ev, fillD, pickCells, putAt, bnd, slD, List.getElem?_cons_zero, List.getElem?_cons_succ, dR.eq_20, Mem.cell, Mem.row, wmA]
  refine AbC_fn ok69 (by simp) ?_
  simp -implicitDefEqProofs (disch := first | assumption | (simp only [wnA]; done) | (simp only [wnA]; omega) | omega | fail) [rc69, ro69, wkA, retV, stabOk, dC, ev, fillD, pickCells, putAt, bnd, slD, List.getElem?_cons_zero, List.getElem?_cons_succ, dR.eq_20, Mem.cell, Mem.row, wmA]
  refine x_idx xis75 ?_
  have e : ((c.toNat : Int)).toNat.toUInt8 = c := by
    show UInt8.ofNat ((c.toNat : Int)).toNat = c
    rw [Int.toNat_natCast]; simp
  rw [e]
  simp -implicitDefEqProofs (disch := first | assumption | (simp only [wnA]; done) | (simp only [wnA]; omega) | omega | fail) [wkA, retV, stabOk, dC, ev, fillD, pickCells, putAt, bnd, slD, List.getElem?_cons_zero, List.getElem?_cons_succ, dR.eq_20, Mem.cell, Mem.row, wmA]
  exact hq

theorem c_pre {w0 : World} {m : Mem} {s : ByteArray} {Q : Value → Mem → Prop} (hq : Q (.bool (hexH s.data.toList)) m) : AbC Tryd.prog w0 67 [.string s, .string ⟨#[48, 120]⟩] m Q := by
  refine AbC_fn ok67 (by simp) ?_
  simp -implicitDefEqProofs (disch := first | assumption | (simp only [wnA]; done) | (simp only [wnA]; omega) | omega | fail) [rc67, ro67, wkA, retV, stabOk, dC, ev, fillD, pickCells, putAt, bnd, slD, List.getElem?_cons_zero, List.getElem?_cons_succ, dR.eq_20, Mem.cell, Mem.row, wmA]
  refine AbC_fn ok72 (by simp) ?_
  have h2 : (ByteArray.mk #[48, 120]).size = 2 := rfl
  have hl : s.data.toList.length = s.size := by simp
  simp -implicitDefEqProofs (disch := first | assumption | (simp only [wnA]; done) | (simp only [wnA]; omega) | omega | fail) [rc72, ro72, wkA, retV, stabOk, dC, ev, fillD, pickCells, putAt, bnd, slD, List.getElem?_cons_zero, List.getElem?_cons_succ, dR.eq_20, Mem.cell, Mem.row, wmA, h2]
  have hq' := fun b (h : hexH s.data.toList = b) => h ▸ hq
  by_cases h : 2 ≤ s.size
  · have hi : (2 : Int) ≤ (s.size : Int) := by omega
    obtain ⟨a, b, r, hr⟩ : ∃ a b r, s.data.toList = a :: b :: r := by
      match s.data.toList, hl with
      | a :: b :: r, _ => exact ⟨a, b, r, rfl⟩
      | [], e => simp at e; omega
      | [_], e => simp at e; omega
    have hx : s.extract 0 2 = ⟨⟨[a, b]⟩⟩ := by rw [Lib.extract_eq, hr]; rfl
    simp -implicitDefEqProofs (disch := first | assumption | (simp only [wnA]; done) | (simp only [wnA]; omega) | omega | fail) [wkA, retV, stabOk, dC, ev, fillD, pickCells, putAt, bnd, slD, List.getElem?_cons_zero, List.getElem?_cons_succ, dR.eq_20, Mem.cell, Mem.row, wmA, h2, h, hi, hx]
    refine hq' _ ?_
    rw [hr]
    simp only [hexH]
    rw [Bool.eq_iff_iff]
    simp
    constructor
    · rintro ⟨x, y⟩; exact ⟨UInt8.toNat_inj.1 (by rw [x]; rfl), UInt8.toNat_inj.1 (by rw [y]; rfl)⟩
    · rintro ⟨x, y⟩; rw [x, y]; exact ⟨rfl, rfl⟩
  · have hi : ¬ (2 : Int) ≤ (s.size : Int) := by omega
    simp -implicitDefEqProofs (disch := first | assumption | (simp only [wnA]; done) | (simp only [wnA]; omega) | omega | fail) [wkA, retV, stabOk, dC, ev, fillD, pickCells, putAt, bnd, slD, List.getElem?_cons_zero, List.getElem?_cons_succ, dR.eq_20, Mem.cell, Mem.row, wmA, h2, h, hi]
    refine hq' _ ?_
    match hs : s.data.toList, hl with
    | [], _ => rfl
    | [_], _ => rfl
    | a :: b :: r, e => simp at e; omega

def sgS (B : Nat) : ByteArray := if B = 16 then ⟨#[48, 49, 50, 51, 52, 53, 54, 55, 56, 57, 97, 98, 99, 100, 101, 102]⟩ else ⟨#[48, 49, 50, 51, 52, 53, 54, 55, 56, 57]⟩
theorem sg10 (c : UInt8) : decide (0 ≤ Lib.indexByte (sgS 10).data.toList c) = inB 10 c :=
  beq_iff_eq.1 (allB (p := fun c => decide (0 ≤ Lib.indexByte (sgS 10).data.toList c) == inB 10 c) (by decide +kernel) c)
theorem sg16 (c : UInt8) : decide (0 ≤ Lib.indexByte (sgS 16).data.toList c) = inB 16 c :=
  beq_iff_eq.1 (allB (p := fun c => decide (0 ≤ Lib.indexByte (sgS 16).data.toList c) == inB 16 c) (by decide +kernel) c)
theorem sg_in {B : Nat} (h : B = 10 ∨ B = 16) (c : UInt8) : decide (0 ≤ Lib.indexByte (sgS B).data.toList c) = inB B c := by
  rcases h with rfl | rfl
  · exact sg10 c
  · exact sg16 c
theorem puL_le {B M : Nat} : ∀ (l : List UInt8) (n v : Nat), n ≤ M → puL B M n l = some v → v ≤ M
  | [], n, v, h, e => by simp [puL] at e; omega
  | c :: l, n, v, h, e => by
    simp only [puL] at e
    split at e
    · rename_i n' hs
      refine puL_le l n' v ?_ e
      unfold puStep at hs
      split at hs
      · split at hs
        · simp at hs; omega
        · cases hs
      · cases hs
    · cases e
theorem nB_or (l : List UInt8) : nB l = 10 ∨ nB l = 16 := by unfold nB; split <;> simp

theorem w_num3 {w0 : World} {m : Mem} {ts : Fr} {S : ByteArray} {Q : AQ} (hp : Part L0 m) (ht : Ten w0) (hE : ErrV w0) (hs : S.size ≤ 140737488355328)
    (t0 : ts 0 = .string S) (t5 : ts 5 = .int .i64 (nB S.data.toList : Nat)) (t6 : ts 6 = .int .i64 (nF S.data.toList : Nat)) (t8 : ts 8 = .int .i64 (nN S.data.toList : Nat))
    (h0 : ∀ ts' m', Old m m' → ts' 2 = .int .i64 0 → ts' 3 = .int .i64 0 → ts' 4 = .bool false → numV S.data.toList = none → Q .ret ts' m')
    (h1 : ∀ ts' m' v, Old m m' → ts' 2 = .int .i64 (nN S.data.toList : Nat) → ts' 3 = .int .i64 (v : Nat) → ts' 4 = .bool true → numV S.data.toList = some v → Q .ret ts' m') :
    AbW Tryd.prog w0 rc55_3 Q ts m := by
  have hB := nB_or S.data.toList
  have hl : S.data.toList.length = S.size := by simp
  have hfl := nF_le S.data.toList
  have hnl := nN_le S.data.toList
  have hfn : nF S.data.toList ≤ nN S.data.toList := by unfold nN; omega
  have hx : S.extract (nF S.data.toList) (nN S.data.toList) = ⟨⟨nDs S.data.toList⟩⟩ := by
    rw [Lib.extract_eq]
    unfold nDs
    rw [List.drop_take]
  have hx2 : (S.extract (nN S.data.toList) S.size).data.toList = S.data.toList.drop (nN S.data.toList) := by
    rw [Lib.extract_eq]
    show List.take _ _ = _
    exact List.take_of_length_le (by rw [List.length_drop]; omega)
  have hdl : (nDs S.data.toList).length ≤ S.size := by unfold nDs; rw [List.length_drop, List.length_take]; omega
  have hv : numV S.data.toList = match puL (nB S.data.toList) 4294967295 0 (nDs S.data.toList) with
      | some v => if digs (nB S.data.toList) v = nDs S.data.toList ∧ wordN false (S.data.toList.drop (nN S.data.toList)) = 0 then some v else none
      | none => none := rfl
  rw [hv] at h0
  have hv1 : ∀ v, puL (nB S.data.toList) 4294967295 0 (nDs S.data.toList) = some v → digs (nB S.data.toList) v = nDs S.data.toList → wordN false (S.data.toList.drop (nN S.data.toList)) = 0 → numV S.data.toList = some v := fun v a b c => by
    rw [hv, a]; simp [b, c]
  clear hv
  have hxs : (S.extract (nN S.data.toList) S.size).size ≤ 140737488355328 := by simp; omega
  generalize hNN : nN S.data.toList = N at *
  generalize hFF : nF S.data.toList = F at *
  generalize nB S.data.toList = B at *
  generalize nDs S.data.toList = D at *
  have c1 : (F : Int) ≤ (N : Int) := by omega
  have c2 : N ≤ S.size := by omega
  have c3 : (N : Int) ≤ (S.size : Int) := by omega
  simp -implicitDefEqProofs (disch := first | assumption | (simp only [wnA]; done) | (simp only [wnA]; omega) | omega | fail) [rc55_3, wkA, retV, stabOk, dC, ev, fillD, pickCells, putAt, bnd, slD, List.getElem?_cons_zero, List.getElem?_cons_succ, dR.eq_20, Mem.cell, Mem.row, wmA, t0, t5, t6, t8, c1, c2, c3, hfn, hx]
  refine c_ParseUint (B := B) (bits := 32) (M := 4294967295) (s := ⟨⟨D⟩⟩) hE (by omega) (.inl ⟨rfl, rfl⟩) (by show D.length ≤ _; omega) (fun m1 v p o1 hn => ?_) fun m1 v o1 hz hv => ?_
  · simp -implicitDefEqProofs (disch := first | assumption | (simp only [wnA]; done) | (simp only [wnA]; omega) | omega | fail) [wkA, retV, stabOk, dC, ev, fillD, pickCells, putAt, bnd, slD, List.getElem?_cons_zero, List.getElem?_cons_succ, dR.eq_20, Mem.cell, Mem.row, wmA, t0, t5, t6, t8]
    refine h0 _ _ o1 (by simp) (by simp) (by simp) ?_
    rcases hn with hn | hn
    · have hD : D = [] := by
        have : D.length = 0 := hn
        simpa using this
      subst hD
      have hne : ∀ v, ¬ digs B v = [] := fun v e => by have := digs_pos B v; rw [e] at this; simp at this
      split
      · rw [if_neg (fun h => hne _ h.1)]
      · rfl
    · have hn : puL B 4294967295 0 D = none := hn
      rw [hn]
  · have hv : puL B 4294967295 0 D = some v := hv
    have hvM := puL_le D 0 v (by omega) hv
    rw [hv] at h0
    have wv : IntKind.i64.wrap (v : Int) = (v : Int) := w64 (by omega)
    simp -implicitDefEqProofs (disch := first | assumption | (simp only [wnA]; done) | (simp only [wnA]; omega) | omega | fail) [wkA, retV, stabOk, dC, ev, fillD, pickCells, putAt, bnd, slD, List.getElem?_cons_zero, List.getElem?_cons_succ, dR.eq_20, Mem.cell, Mem.row, wmA, t0, t5, t6, t8, c1, c2, c3, hfn, hx]
    refine c_FormatUint (o1.part hp) ht (by omega) (by omega) fun m2 o2 => ?_
    have oo2 := o1.trans o2
    by_cases hd : digs B v = D
    · simp -implicitDefEqProofs (disch := first | assumption | (simp only [wnA]; done) | (simp only [wnA]; omega) | omega | fail) [wkA, retV, stabOk, dC, ev, fillD, pickCells, putAt, bnd, slD, List.getElem?_cons_zero, List.getElem?_cons_succ, dR.eq_20, Mem.cell, Mem.row, wmA, t0, t5, t6, t8, c1, c2, c3, hfn, hx, hd]
      refine c_word hxs ?_
      rw [hx2]
      by_cases hw : wordN false (S.data.toList.drop N) = 0
      · have e0 : ((wordN false (S.data.toList.drop N) : Nat) : Int) = 0 := by omega
        rw [e0]
        simp -implicitDefEqProofs (disch := first | assumption | (simp only [wnA]; done) | (simp only [wnA]; omega) | omega | fail) [wkA, retV, stabOk, dC, ev, fillD, pickCells, putAt, bnd, slD, List.getElem?_cons_zero, List.getElem?_cons_succ, dR.eq_20, Mem.cell, Mem.row, wmA, t8, rc55_2, wv]
        exact h1 _ _ v oo2 (by simp) (by simp) (by simp) (hv1 v hv hd hw)
      · have e0 : (0 : Int) < ((wordN false (S.data.toList.drop N) : Nat) : Int) := by omega
        have e1 : 0 < wordN false (S.data.toList.drop N) := by omega
        simp -implicitDefEqProofs (disch := first | assumption | (simp only [wnA]; done) | (simp only [wnA]; omega) | omega | fail) [wkA, retV, stabOk, dC, ev, fillD, pickCells, putAt, bnd, slD, List.getElem?_cons_zero, List.getElem?_cons_succ, dR.eq_20, Mem.cell, Mem.row, wmA, e0, e1]
        exact h0 _ _ oo2 (by simp) (by simp) (by simp) (by simp [hw])
    · have hd' : (digs B v == D) = false := by simpa using hd
      simp -implicitDefEqProofs (disch := first | assumption | (simp only [wnA]; done) | (simp only [wnA]; omega) | omega | fail) [wkA, retV, stabOk, dC, ev, fillD, pickCells, putAt, bnd, slD, List.getElem?_cons_zero, List.getElem?_cons_succ, dR.eq_20, Mem.cell, Mem.row, wmA, t0, t5, t6, t8, c1, c2, c3, hfn, hx, hd, hd']
      refine h0 _ _ oo2 ?_ ?_ ?_ (by simp [hd])
      · simp
      · simp
      · simp

theorem w_num {w0 : World} {m : Mem} {ts : Fr} {S : ByteArray} {Q : AQ} (hp : Part L0 m) (ht : Ten w0) (hE : ErrV w0) (hs : S.size ≤ 140737488355328)
    (t0 : ts 0 = .string S) (t5 : ts 5 = .int .i64 (nB S.data.toList : Nat)) (t6 : ts 6 = .int .i64 (nF S.data.toList : Nat)) (t7 : ts 7 = .string (sgS (nB S.data.toList)))
    (h0 : ∀ ts' m', Old m m' → ts' 2 = .int .i64 0 → ts' 3 = .int .i64 0 → ts' 4 = .bool false → numV S.data.toList = none → Q .ret ts' m')
    (h1 : ∀ ts' m' v, Old m m' → ts' 2 = .int .i64 (nN S.data.toList : Nat) → ts' 3 = .int .i64 (v : Nat) → ts' 4 = .bool true → numV S.data.toList = some v → Q .ret ts' m') :
    AbW Tryd.prog w0 rc55_4 Q ts m := by
  have hB := nB_or S.data.toList
  have hl : S.data.toList.length = S.size := by simp
  have hfl := nF_le S.data.toList
  have hnl := nN_le S.data.toList
  simp -implicitDefEqProofs (disch := first | assumption | (simp only [wnA]; done) | (simp only [wnA]; omega) | omega | fail) [rc55_4, wkA, retV, stabOk, dC, ev, fillD, pickCells, putAt, bnd, slD, List.getElem?_cons_zero, List.getElem?_cons_succ, dR.eq_20, Mem.cell, Mem.row, wmA, t6]
  refine LoopW_of (fun k ts' m' => ∃ j, j + k = S.size ∧ m' = m ∧ nF S.data.toList ≤ j ∧ ts' 0 = .string S ∧ ts' 5 = .int .i64 (nB S.data.toList : Nat) ∧ ts' 6 = .int .i64 (nF S.data.toList : Nat) ∧ ts' 7 = .string (sgS (nB S.data.toList)) ∧ ts' 8 = .int .i64 (j : Nat) ∧ nN S.data.toList = j + runN (inB (nB S.data.toList)) (S.data.toList.drop j)) (S.size - nF S.data.toList) ?_ ?_
  · exact ⟨nF S.data.toList, by omega, rfl, Nat.le_refl _, by simp [t0], by simp [t5], by simp [t6], by simp [t7], by simp, rfl⟩
  · rintro k ts2 m2 K ⟨j, hj, rfl, hfj, s0, s5, s6, s7, s8, hn'⟩ hK
    have hend : runN (inB (nB S.data.toList)) (S.data.toList.drop j) = 0 → AbW Tryd.prog w0 rc55_3 Q ts2 m2 := fun hz => w_num3 hp ht hE hs s0 s5 s6 (by rw [s8, hn', hz, Nat.add_zero]) h0 h1
    simp -implicitDefEqProofs (disch := first | assumption | (simp only [wnA]; done) | (simp only [wnA]; omega) | omega | fail) [rc55_1, wkA, retV, stabOk, dC, ev, fillD, pickCells, putAt, bnd, slD, List.getElem?_cons_zero, List.getElem?_cons_succ, dR.eq_20, Mem.cell, Mem.row, wmA, s0, s8]
    rcases hd : S.data.toList.drop j with _ | ⟨c, r⟩
    · have hjj := drop_nil hd (by omega)
      have hn : ¬ j < S.size := by omega
      have hend := w_num3 (w0 := w0) (m := m2) (ts := upd (upd (upd (upd (upd (upd (upd (upd (upd (upd (upd (upd ts2 14 (.int .i64 (j : Nat))) 15 (.string S)) 16 (.int .i64 (S.size : Nat))) 17 (.bool false)) 18 (.bool false)) 19 undef) 20 undef) 21 undef) 22 undef) 23 undef) 24 undef) 25 (.bool false)) hp ht hE hs (by simp [s0]) (by simp [s5]) (by simp [s6]) (by rw [hn', hd]; simp [s8, runN]) h0 h1
      simp -implicitDefEqProofs (disch := first | assumption | (simp only [wnA]; done) | (simp only [wnA]; omega) | omega | fail) [wkA, retV, stabOk, dC, ev, fillD, pickCells, putAt, bnd, slD, List.getElem?_cons_zero, List.getElem?_cons_succ, dR.eq_20, Mem.cell, Mem.row, wmA, s0, s8, hn]
      exact hend
    · obtain ⟨hlt, g1, hr⟩ := at_S hd
      simp -implicitDefEqProofs (disch := first | assumption | (simp only [wnA]; done) | (simp only [wnA]; omega) | omega | fail) [wkA, retV, stabOk, dC, ev, fillD, pickCells, putAt, bnd, slD, List.getElem?_cons_zero, List.getElem?_cons_succ, dR.eq_20, Mem.cell, Mem.row, wmA, s0, s7, s8, hlt, g1, getOf g1]
      refine c_iByte ?_
      have hin := sg_in hB c
      have w1 : IntKind.i64.wrap ((j : Int) + 1) = ((j + 1 : Nat) : Int) := by rw [w64 (by omega)]; omega
      rw [hd] at hn' hend
      cases hc : inB (nB S.data.toList) c with
      | true =>
        rw [hc] at hin
        have hin := of_decide_eq_true hin
        simp -implicitDefEqProofs (disch := first | assumption | (simp only [wnA]; done) | (simp only [wnA]; omega) | omega | fail) [wkA, retV, stabOk, dC, ev, fillD, pickCells, putAt, bnd, slD, List.getElem?_cons_zero, List.getElem?_cons_succ, dR.eq_20, Mem.cell, Mem.row, wmA, hin, s8, rc55_0, w1]
        exact hK (k - 1) _ m2 (by omega) ⟨j + 1, by omega, rfl, by omega, by simp [s0], by simp [s5], by simp [s6], by simp [s7], by simp, by rw [hn', hr]; simp only [runN, hc, if_true]; omega⟩
      | false =>
        rw [hc] at hin
        have hin := of_decide_eq_false hin
        have hend := w_num3 (w0 := w0) (m := m2) (ts := upd (upd (upd (upd (upd (upd (upd (upd (upd (upd (upd (upd ts2 14 (.int .i64 (j : Nat))) 15 (.string S)) 16 (.int .i64 (S.size : Nat))) 17 (.bool true)) 18 (.bool true)) 19 (.string (sgS (nB S.data.toList)))) 20 (.string S)) 21 (.int .i64 (j : Nat))) 22 (.int .u8 (c.toNat : Int))) 23 (.int .i64 (Lib.indexByte (sgS (nB S.data.toList)).data.toList c))) 24 (.bool false)) 25 (.bool false)) hp ht hE hs (by simp [s0]) (by simp [s5]) (by simp [s6]) (by rw [hn']; simp [s8, runN, hc]) h0 h1
        simp -implicitDefEqProofs (disch := first | assumption | (simp only [wnA]; done) | (simp only [wnA]; omega) | omega | fail) [wkA, retV, stabOk, dC, ev, fillD, pickCells, putAt, bnd, slD, List.getElem?_cons_zero, List.getElem?_cons_succ, dR.eq_20, Mem.cell, Mem.row, wmA, hin, s8]
        exact hend
theorem c_tnum {w0 : World} {m : Mem} {S : ByteArray} {Q : Value → Mem → Prop} (hp : Part L0 m) (ht : Ten w0) (hE : ErrV w0) (hs : S.size ≤ 140737488355328)
    (h0 : ∀ m', Old m m' → numV S.data.toList = none → Q (.tuple ⟨[.int .i64 0, .int .i64 0, .bool false]⟩) m')
    (h1 : ∀ m' v, Old m m' → numV S.data.toList = some v → Q (.tuple ⟨[.int .i64 (nN S.data.toList : Nat), .int .i64 (v : Nat), .bool true]⟩) m') :
    AbC Tryd.prog w0 55 [.string S] m Q := by
  refine AbC_fn ok55 (by simp) ?_
  have r0 : ∀ ts' m', Old m m' → ts' 2 = .int .i64 0 → ts' 3 = .int .i64 0 → ts' 4 = .bool false → numV S.data.toList = none → bodyA ro55 Q .ret ts' m' := fun ts' m' o e2 e3 e4 hn => by
    simp -implicitDefEqProofs (disch := first | assumption | (simp only [wnA]; done) | (simp only [wnA]; omega) | omega | fail) [ro55, wkA, retV, stabOk, dC, ev, fillD, pickCells, putAt, bnd, slD, List.getElem?_cons_zero, List.getElem?_cons_succ, dR.eq_20, Mem.cell, Mem.row, wmA, e2, e3, e4]
    exact h0 m' o hn
  have r1 : ∀ ts' m' (v : Nat), Old m m' → ts' 2 = .int .i64 (nN S.data.toList : Nat) → ts' 3 = .int .i64 (v : Nat) → ts' 4 = .bool true → numV S.data.toList = some v → bodyA ro55 Q .ret ts' m' := fun ts' m' v o e2 e3 e4 hn => by
    simp -implicitDefEqProofs (disch := first | assumption | (simp only [wnA]; done) | (simp only [wnA]; omega) | omega | fail) [ro55, wkA, retV, stabOk, dC, ev, fillD, pickCells, putAt, bnd, slD, List.getElem?_cons_zero, List.getElem?_cons_succ, dR.eq_20, Mem.cell, Mem.row, wmA, e2, e3, e4]
    exact h1 m' v o hn
  simp -implicitDefEqProofs (disch := first | assumption | (simp only [wnA]; done) | (simp only [wnA]; omega) | omega | fail) [rc55, wkA, retV, stabOk, dC, ev, fillD, pickCells, putAt, bnd, slD, List.getElem?_cons_zero, List.getElem?_cons_succ, dR.eq_20, Mem.cell, Mem.row, wmA]
  refine c_pre ?_
  cases hh : hexH S.data.toList with
  | true =>
    have eB : nB S.data.toList = 16 := by simp [nB, hh]
    have eF : nF S.data.toList = 2 := by simp [nF, hh]
    simp -implicitDefEqProofs (disch := first | assumption | (simp only [wnA]; done) | (simp only [wnA]; omega) | omega | fail) [wkA, retV, stabOk, dC, ev, fillD, pickCells, putAt, bnd, slD, List.getElem?_cons_zero, List.getElem?_cons_succ, dR.eq_20, Mem.cell, Mem.row, wmA]
    exact w_num hp ht hE hs (by simp [frA_at]) (by rw [eB]; simp) (by rw [eF]; simp) (by rw [eB]; simp [sgS]) r0 r1
  | false =>
    have eB : nB S.data.toList = 10 := by simp [nB, hh]
    have eF : nF S.data.toList = 0 := by simp [nF, hh]
    simp -implicitDefEqProofs (disch := first | assumption | (simp only [wnA]; done) | (simp only [wnA]; omega) | omega | fail) [wkA, retV, stabOk, dC, ev, fillD, pickCells, putAt, bnd, slD, List.getElem?_cons_zero, List.getElem?_cons_succ, dR.eq_20, Mem.cell, Mem.row, wmA]
    exact w_num hp ht hE hs (by simp [frA_at]) (by rw [eB]; simp) (by rw [eF]; simp) (by rw [eB]; simp [sgS]) r0 r1
end Go.Proofs.YtgfkjldohilmkaaDoor.Ab
/- The tokens of a text: texts in quotes. -/
set_option linter.unusedVariables false
set_option linter.unusedSimpArgs false
namespace Go.Proofs.YtgfkjldohilmkaaDoor.Ab
open Go Go.RowKit
set_option maxHeartbeats 1000000
set_option maxRecDepth 100000

def escS : List UInt8 := [92, 34, 114, 110]
theorem esc_no (c : UInt8) : decide (Lib.indexByte escS c < 0) = (escD c).isNone :=
  beq_iff_eq.1 (allB (p := fun c => decide (Lib.indexByte escS c < 0) == (escD c).isNone) (by decide +kernel) c)
theorem esc_in {c x : UInt8} (h : escD c = some x) : (c.toNat = 114 ∧ x = 13) ∨ (c.toNat ≠ 114 ∧ c.toNat = 110 ∧ x = 10) ∨ (c.toNat ≠ 114 ∧ c.toNat ≠ 110 ∧ x = c) := by
  unfold escD at h
  split at h
  · rename_i hc
    simp at h; subst h
    exact .inr (.inr ⟨by omega, by omega, UInt8.toNat_inj.1 (by rw [hc]; rfl)⟩)
  · split at h
    · rename_i hc
      simp at h; subst h
      exact .inr (.inr ⟨by omega, by omega, UInt8.toNat_inj.1 (by rw [hc]; rfl)⟩)
    · split at h
      · simp at h; subst h
        exact .inl ⟨by assumption, rfl⟩
      · split at h
        · simp at h; subst h
          exact .inr (.inl ⟨by assumption, by assumption, rfl⟩)
        · cases h

theorem qd_q {c : UInt8} {r : List UInt8} (h : c.toNat = 34) : qd (c :: r) = some (1, []) := by
  cases r <;> simp [qd, h]
theorem qd_bad {c : UInt8} {r : List UInt8} (h : c.toNat < 32 ∨ 126 < c.toNat) : qd (c :: r) = none := by
  have h34 : ¬ c.toNat = 34 := by omega
  cases r <;> simp [qd, h, h34]
theorem qd_ch {c : UInt8} {r : List UInt8} (h : ¬ (c.toNat < 32 ∨ 126 < c.toNat)) (h34 : c.toNat ≠ 34) (h92 : c.toNat ≠ 92) : qd (c :: r) = (qd r).map fun p => (p.1 + 1, c :: p.2) := by
  cases r with
  | nil => simp [qd, h34]
  | cons e r => simp [qd, h, h34, h92]
theorem qd_e0 {c : UInt8} (h : c.toNat = 92) : qd [c] = none := by simp [qd, h]
theorem qd_e1 {c e : UInt8} {r : List UInt8} (h : c.toNat = 92) (he : escD e = none) : qd (c :: e :: r) = none := by simp [qd, h, he]
theorem qd_e2 {c e x : UInt8} {r : List UInt8} (h : c.toNat = 92) (he : escD e = some x) : qd (c :: e :: r) = (qd r).map fun p => (p.1 + 2, x :: p.2) := by simp [qd, h, he]

theorem c_tquo {w0 : World} {m : Mem} {S : ByteArray} {Q : Value → Mem → Prop} (hs1 : 1 ≤ S.size) (hs : S.size ≤ 1000000000)
    (h0 : ∀ m', Old m m' → qd (S.data.toList.drop 1) = none → Q (.tuple ⟨[.int .i64 0, .string ⟨#[]⟩, .bool false]⟩) m')
    (h1 : ∀ m' n t, Old m m' → qd (S.data.toList.drop 1) = some (n, t) → Q (.tuple ⟨[.int .i64 (n + 1 : Nat), .string ⟨⟨t⟩⟩, .bool true]⟩) m') :
    AbC Tryd.prog w0 56 [.string S] m Q := by
  refine AbC_fn ok56 (by simp) ?_
  simp -implicitDefEqProofs (disch := first | assumption | (simp only [wnA]; done) | (simp only [wnA]; omega) | omega | fail) [rc56, ro56, wkA, retV, stabOk, dC, ev, fillD, pickCells, putAt, bnd, slD, List.getElem?_cons_zero, List.getElem?_cons_succ, dR.eq_20, Mem.cell, Mem.row, wmA]
  have r0 : ∀ (ts' : Fr) m', Old m m' → ts' 2 = .int .i64 0 → ts' 3 = .string ⟨#[]⟩ → ts' 4 = .bool false → qd (S.data.toList.drop 1) = none → bodyA ro56 Q .ret ts' m' := fun ts' m' o e2 e3 e4 hn => by
    simp -implicitDefEqProofs (disch := first | assumption | (simp only [wnA]; done) | (simp only [wnA]; omega) | omega | fail) [ro56, wkA, retV, stabOk, dC, ev, fillD, pickCells, putAt, bnd, slD, List.getElem?_cons_zero, List.getElem?_cons_succ, dR.eq_20, Mem.cell, Mem.row, wmA, e2, e3, e4]
    exact h0 m' o hn
  simp only [ro56] at r0
  refine LoopW_of (fun k ts m' => ∃ j out, j + k = S.size ∧ 1 ≤ j ∧ out.length < j ∧ ts 0 = .string S ∧ ts 6 = .int .i64 (j : Nat) ∧ ts 5 = .pointer (some ⟨m.next, 0, none⟩) ∧ Bld m m' m.next out ∧ qd (S.data.toList.drop 1) = (qd (S.data.toList.drop j)).map fun p => (p.1 + (j - 1), out ++ p.2)) (S.size - 1) ?_ ?_
  · exact ⟨1, [], by omega, by omega, by simp, by simp [frA_at], by simp, by simp, Bld.new (Old.refl m), by simp⟩
  · rintro k ts m2 K ⟨j, out, hj, hj1, hol, t0, t6, t5, hb, hqd⟩ hK
    simp -implicitDefEqProofs (disch := first | assumption | (simp only [wnA]; done) | (simp only [wnA]; omega) | omega | fail) [rc56_3, wkA, retV, stabOk, dC, ev, fillD, pickCells, putAt, bnd, slD, List.getElem?_cons_zero, List.getElem?_cons_succ, dR.eq_20, Mem.cell, Mem.row, wmA, t0, t6]
    rcases hd : S.data.toList.drop j with _ | ⟨c, r⟩
    · have hjj := drop_nil hd (by omega)
      have hn : ¬ j < S.size := by omega
      rw [hd] at hqd
      simp -implicitDefEqProofs (disch := first | assumption | (simp only [wnA]; done) | (simp only [wnA]; omega) | omega | fail) [wkA, retV, stabOk, dC, ev, fillD, pickCells, putAt, bnd, slD, List.getElem?_cons_zero, List.getElem?_cons_succ, dR.eq_20, Mem.cell, Mem.row, wmA, t0, t6, hn, rc56_4]
      exact h0 m2 hb.1 (by rw [hqd]; rfl)
    · obtain ⟨hlt, g1, hr⟩ := at_S hd
      rw [hd] at hqd
      have hjw : IntKind.i64.wrap ((j : Int) + 1) = ((j + 1 : Nat) : Int) := by rw [w64 (by omega)]; omega
      have hjw2 : IntKind.i64.wrap (((j + 1 : Nat) : Int) + 1) = ((j + 2 : Nat) : Int) := by rw [w64 (by omega)]; omega
      have hob : out.length + 1 ≤ 140737488355328 := by omega
      by_cases h34 : c.toNat = 34
      · have i34 : (c.toNat : Int) = 34 := by omega
        simp -implicitDefEqProofs (disch := first | assumption | (simp only [wnA]; done) | (simp only [wnA]; omega) | omega | fail) [wkA, retV, stabOk, dC, ev, fillD, pickCells, putAt, bnd, slD, List.getElem?_cons_zero, List.getElem?_cons_succ, dR.eq_20, Mem.cell, Mem.row, wmA, t0, t5, t6, hlt, g1, getOf g1, rc56_2, i34, hjw]
        refine c_BString hb (by omega) fun m3 h3 => ?_
        simp -implicitDefEqProofs (disch := first | assumption | (simp only [wnA]; done) | (simp only [wnA]; omega) | omega | fail) [wkA, retV, stabOk, dC, ev, fillD, pickCells, putAt, bnd, slD, List.getElem?_cons_zero, List.getElem?_cons_succ, dR.eq_20, Mem.cell, Mem.row, wmA]
        have := h1 m3 j out h3 (by rw [hqd, qd_q h34]; simp; omega)
        exact this
      · have i34 : ¬ (c.toNat : Int) = 34 := by omega
        by_cases hbad : c.toNat < 32 ∨ 126 < c.toNat
        · have hno : qd (S.data.toList.drop 1) = none := by rw [hqd, qd_bad hbad]; rfl
          by_cases h32 : c.toNat < 32
          · have i32 : (c.toNat : Int) < 32 := by omega
            simp -implicitDefEqProofs (disch := first | assumption | (simp only [wnA]; done) | (simp only [wnA]; omega) | omega | fail) [wkA, retV, stabOk, dC, ev, fillD, pickCells, putAt, bnd, slD, List.getElem?_cons_zero, List.getElem?_cons_succ, dR.eq_20, Mem.cell, Mem.row, wmA, t0, t5, t6, hlt, g1, getOf g1, rc56_2, beqF i34, ltT i32]
            exact h0 m2 hb.1 hno
          · have i32 : (32 : Int) ≤ (c.toNat : Int) := by omega
            have i126 : (126 : Int) < (c.toNat : Int) := by omega
            simp -implicitDefEqProofs (disch := first | assumption | (simp only [wnA]; done) | (simp only [wnA]; omega) | omega | fail) [wkA, retV, stabOk, dC, ev, fillD, pickCells, putAt, bnd, slD, List.getElem?_cons_zero, List.getElem?_cons_succ, dR.eq_20, Mem.cell, Mem.row, wmA, t0, t5, t6, hlt, g1, getOf g1, rc56_2, beqF i34, ltF i32, gtT i126]
            exact h0 m2 hb.1 hno
        · have i32 : (32 : Int) ≤ (c.toNat : Int) := by omega
          have i126 : (c.toNat : Int) ≤ 126 := by omega
          by_cases h92 : c.toNat = 92
          · have i92 : (c.toNat : Int) = 92 := by omega
            rcases r with _ | ⟨e, r⟩
            · have hno : qd (S.data.toList.drop 1) = none := by rw [hqd, qd_e0 h92]; rfl
              have hjs := drop_nil hr (by omega)
              have ijs : (j : Int) + 1 = (S.size : Int) := by omega
              simp -implicitDefEqProofs (disch := first | assumption | (simp only [wnA]; done) | (simp only [wnA]; omega) | omega | fail) [wkA, retV, stabOk, dC, ev, fillD, pickCells, putAt, bnd, slD, List.getElem?_cons_zero, List.getElem?_cons_succ, dR.eq_20, Mem.cell, Mem.row, wmA, t0, t5, t6, hlt, g1, getOf g1, rc56_2, rc56_1, beqF i34, ltF i32, gtF i126, bneF i92, hjw, beqT ijs]
              exact h0 m2 hb.1 hno
            · obtain ⟨hlt2, g2, hr2⟩ := at_S hr
              have ijs : (j : Int) + 1 ≠ (S.size : Int) := by omega
              have hj2 : ((j : Int) + 1).toNat = j + 1 := by omega
              have hj3 : (0 : Int) ≤ (j : Int) + 1 := by omega
              simp -implicitDefEqProofs (disch := first | assumption | (simp only [wnA]; done) | (simp only [wnA]; omega) | omega | fail) [wkA, retV, stabOk, dC, ev, fillD, pickCells, putAt, bnd, slD, List.getElem?_cons_zero, List.getElem?_cons_succ, dR.eq_20, Mem.cell, Mem.row, wmA, t0, t5, t6, hlt, g1, getOf g1, rc56_2, rc56_1, beqF i34, ltF i32, gtF i126, bneF i92, hjw, beqF ijs, hlt2, g2, getOf g2, hj2, hj3]
              refine c_iByte ?_
              have hes := esc_no e
              cases he : escD e with
              | none =>
                have hno : qd (S.data.toList.drop 1) = none := by rw [hqd, qd_e1 h92 he]; rfl
                rw [he] at hes
                have hes := of_decide_eq_true hes
                simp only [escS] at hes
                simp -implicitDefEqProofs (disch := first | assumption | (simp only [wnA]; done) | (simp only [wnA]; omega) | omega | fail) [wkA, retV, stabOk, dC, ev, fillD, pickCells, putAt, bnd, slD, List.getElem?_cons_zero, List.getElem?_cons_succ, dR.eq_20, Mem.cell, Mem.row, wmA, hes]
                exact h0 m2 hb.1 hno
              | some x =>
                rw [he] at hes
                have hes2 : (0 : Int) ≤ Lib.indexByte [92, 34, 114, 110] e := by
                  have := of_decide_eq_false hes
                  simp only [escS] at this
                  omega
                have hjw3 : IntKind.i64.wrap ((j : Int) + 1 + 1) = (j : Int) + 1 + 1 := w64 (by omega)
                have fin : ∀ (ts' : Fr) (m' : Mem), ts' 0 = ts 0 → ts' 5 = ts 5 → ts' 6 = .int .i64 ((j : Int) + 1 + 1) → Bld m m' m.next (out ++ [x]) → K ts' m' := fun ts' m' e0 e5 e6 hb' =>
                  hK (k - 2) ts' m' (by omega) ⟨j + 2, out ++ [x], by omega, by omega, by simp; omega, by rw [e0, t0], by rw [e6]; congr 1, by rw [e5, t5], hb', by
                    rw [hqd, qd_e2 h92 he, Option.map_map]
                    have hd2 : S.data.toList.drop (j + 2) = r := hr2
                    rw [hd2]
                    congr 1
                    funext p
                    simp
                    omega⟩
                rcases esc_in he with ⟨a1, rfl⟩ | ⟨a1, a2, rfl⟩ | ⟨a1, a2, rfl⟩
                · have i1 : (e.toNat : Int) = 114 := by omega
                  simp -implicitDefEqProofs (disch := first | assumption | (simp only [wnA]; done) | (simp only [wnA]; omega) | omega | fail) [wkA, retV, stabOk, dC, ev, fillD, pickCells, putAt, bnd, slD, List.getElem?_cons_zero, List.getElem?_cons_succ, dR.eq_20, Mem.cell, Mem.row, wmA, ltF hes2, rc56_0, t0, t5, t6, hlt2, g2, getOf g2, hj2, hj3, i1]
                  refine c_WriteByte (b := 13) hb hob fun m3 h3 => ?_
                  simp -implicitDefEqProofs (disch := first | assumption | (simp only [wnA]; done) | (simp only [wnA]; omega) | omega | fail) [wkA, retV, stabOk, dC, ev, fillD, pickCells, putAt, bnd, slD, List.getElem?_cons_zero, List.getElem?_cons_succ, dR.eq_20, Mem.cell, Mem.row, wmA, hjw3]
                  exact fin _ m3 (by simp) (by simp) (by simp) h3
                · have i1 : ¬ (e.toNat : Int) = 114 := by omega
                  have i2 : (e.toNat : Int) = 110 := by omega
                  simp -implicitDefEqProofs (disch := first | assumption | (simp only [wnA]; done) | (simp only [wnA]; omega) | omega | fail) [wkA, retV, stabOk, dC, ev, fillD, pickCells, putAt, bnd, slD, List.getElem?_cons_zero, List.getElem?_cons_succ, dR.eq_20, Mem.cell, Mem.row, wmA, ltF hes2, rc56_0, t0, t5, t6, hlt2, g2, getOf g2, hj2, hj3, beqF i1, i2]
                  refine c_WriteByte (b := 10) hb hob fun m3 h3 => ?_
                  simp -implicitDefEqProofs (disch := first | assumption | (simp only [wnA]; done) | (simp only [wnA]; omega) | omega | fail) [wkA, retV, stabOk, dC, ev, fillD, pickCells, putAt, bnd, slD, List.getElem?_cons_zero, List.getElem?_cons_succ, dR.eq_20, Mem.cell, Mem.row, wmA, hjw3]
                  exact fin _ m3 (by simp) (by simp) (by simp) h3
                · have i1 : ¬ (x.toNat : Int) = 114 := by omega
                  have i2 : ¬ (x.toNat : Int) = 110 := by omega
                  simp -implicitDefEqProofs (disch := first | assumption | (simp only [wnA]; done) | (simp only [wnA]; omega) | omega | fail) [wkA, retV, stabOk, dC, ev, fillD, pickCells, putAt, bnd, slD, List.getElem?_cons_zero, List.getElem?_cons_succ, dR.eq_20, Mem.cell, Mem.row, wmA, ltF hes2, rc56_0, t0, t5, t6, hlt2, g2, getOf g2, hj2, hj3, beqF i1, beqF i2]
                  refine c_WriteByte hb hob fun m3 h3 => ?_
                  simp -implicitDefEqProofs (disch := first | assumption | (simp only [wnA]; done) | (simp only [wnA]; omega) | omega | fail) [wkA, retV, stabOk, dC, ev, fillD, pickCells, putAt, bnd, slD, List.getElem?_cons_zero, List.getElem?_cons_succ, dR.eq_20, Mem.cell, Mem.row, wmA, hjw3]
                  exact fin _ m3 (by simp) (by simp) (by simp) h3
          · have i92 : ¬ (c.toNat : Int) = 92 := by omega
            simp -implicitDefEqProofs (disch := first | assumption | (simp only [wnA]; done) | (simp only [wnA]; omega) | omega | fail) [wkA, retV, stabOk, dC, ev, fillD, pickCells, putAt, bnd, slD, List.getElem?_cons_zero, List.getElem?_cons_succ, dR.eq_20, Mem.cell, Mem.row, wmA, t0, t5, t6, hlt, g1, getOf g1, rc56_2, beqF i34, ltF i32, gtF i126, bneT i92]
            refine c_WriteByte hb hob fun m3 h3 => ?_
            simp -implicitDefEqProofs (disch := first | assumption | (simp only [wnA]; done) | (simp only [wnA]; omega) | omega | fail) [wkA, retV, stabOk, dC, ev, fillD, pickCells, putAt, bnd, slD, List.getElem?_cons_zero, List.getElem?_cons_succ, dR.eq_20, Mem.cell, Mem.row, wmA, t6, hjw]
            exact hK (k - 1) _ m3 (by omega) ⟨j + 1, out ++ [c], by omega, by omega, by simp; omega, by simp [t0], by simp, by simp [t5], h3, by
              rw [hqd, hr, qd_ch hbad h34 h92, Option.map_map]
              congr 1
              funext p
              simp
              omega⟩
end Go.Proofs.YtgfkjldohilmkaaDoor.Ab
/- The tokens of a text: one token. -/
set_option linter.unusedVariables false
set_option linter.unusedSimpArgs false
namespace Go.Proofs.YtgfkjldohilmkaaDoor.Ab
open Go Go.RowKit
set_option maxHeartbeats 1000000
set_option maxRecDepth 100000

def sgnS : List UInt8 := [58, 59, 44, 123, 125]
theorem sgn_in (c : UInt8) : decide (0 ≤ Lib.indexByte sgnS c) = isSg c :=
  beq_iff_eq.1 (allB (p := fun c => decide (0 ≤ Lib.indexByte sgnS c) == isSg c) (by decide +kernel) c)
theorem let_dig {c : UInt8} (h : isLet c = true) : isDig c = false := by
  simp only [isLet, Bool.and_eq_true, decide_eq_true_eq] at h
  simp only [isDig, Bool.and_eq_false_iff, decide_eq_false_iff_not]
  omega
theorem ext0 {S : ByteArray} {n : Nat} : S.extract 0 n = ⟨⟨S.data.toList.take n⟩⟩ := by
  rw [Lib.extract_eq]; simp

theorem c_tone {w0 : World} {m : Mem} {S : ByteArray} {Q : Value → Mem → Prop} (hp : Part L0 m) (ht : Ten w0) (hE : ErrV w0) (hs1 : 1 ≤ S.size) (hs : S.size ≤ 1000000)
    (h0 : ∀ m' (t : Tk), Old m m' → oneL S.data.toList = none → Q (.tuple ⟨[.agg ⟨t.cells 0⟩, .int .i64 0]⟩) m')
    (h1 : ∀ m' (t : Tk) (n : Nat), Old m m' → oneL S.data.toList = some (t, n) → Q (.tuple ⟨[.agg ⟨t.cells 0⟩, .int .i64 n]⟩) m') :
    AbC Tryd.prog w0 41 [.string S] m Q := by
  refine AbC_fn ok41 (by simp) ?_
  have hl : S.data.toList.length = S.size := by simp
  obtain ⟨c, r, hr⟩ : ∃ c r, S.data.toList = c :: r := by
    match S.data.toList, hl with
    | c :: r, _ => exact ⟨c, r, rfl⟩
    | [], e => simp at e; omega
  obtain ⟨hlt, g1, hr1⟩ := at_S (S := S) (j := 0) (c := c) (r := r) (by rw [List.drop_zero, hr])
  simp only [Nat.zero_add] at hr1
  have o1 : Old m (m.push (.own [.int .i64 0, .string ⟨#[]⟩, .int .i64 0, .int .i64 0] 78)) := (Old.refl m).push _
  have gT : (m.push (.own [.int .i64 0, .string ⟨#[]⟩, .int .i64 0, .int .i64 0] 78)).get m.next = .own [.int .i64 0, .string ⟨#[]⟩, .int .i64 0, .int .i64 0] 78 := by simp
  have nT : m.next + 1 = (m.push (.own [.int .i64 0, .string ⟨#[]⟩, .int .i64 0, .int .i64 0] 78)).next := by simp
  simp -implicitDefEqProofs (disch := first | assumption | (simp only [wnA]; done) | (simp only [wnA]; omega) | omega | fail) [rc41, ro41, wkA, retV, stabOk, dC, ev, fillD, pickCells, putAt, bnd, slD, List.getElem?_cons_zero, List.getElem?_cons_succ, dR.eq_20, Mem.cell, Mem.row, wmA, hlt, g1, getOf g1]
  generalize m.push (.own [.int .i64 0, .string ⟨#[]⟩, .int .i64 0, .int .i64 0] 78) = m1 at *
  refine c_letter ?_
  cases hle : isLet c with
  | true =>
    have ho : oneL S.data.toList = some (⟨1, S.data.toList.take (wordN false S.data.toList), 0⟩, wordN false S.data.toList) := by rw [hr]; simp [oneL, hle]
    have hwl := wordN_le false S.data.toList
    simp -implicitDefEqProofs (disch := first | assumption | (simp only [wnA]; done) | (simp only [wnA]; omega) | omega | fail) [wkA, retV, stabOk, dC, ev, fillD, pickCells, putAt, bnd, slD, List.getElem?_cons_zero, List.getElem?_cons_succ, dR.eq_20, Mem.cell, Mem.row, wmA]
    refine c_word (by omega) ?_
    generalize wordN false S.data.toList = n at *
    have hn : n ≤ S.size := by omega
    have hn2 : (n : Int) ≤ (S.size : Int) := by omega
    simp -implicitDefEqProofs (disch := first | assumption | (simp only [wnA]; done) | (simp only [wnA]; omega) | omega | fail) [wkA, retV, stabOk, dC, ev, fillD, pickCells, putAt, bnd, slD, List.getElem?_cons_zero, List.getElem?_cons_succ, dR.eq_20, Mem.cell, Mem.row, wmA, hn, hn2, ext0]
    refine SK_st (i := m.next) (o := 0) (by simp [wkA, retV, stabOk, dC, ev, fillD, pickCells, putAt, bnd, slD, List.getElem?_cons_zero, List.getElem?_cons_succ, dR.eq_20]) (e := 78) gT (by simp) (by simp [wkA, retV, stabOk, dC, ev, fillD, pickCells, putAt, bnd, slD, List.getElem?_cons_zero, List.getElem?_cons_succ, dR.eq_20]) (by simp [wkA, retV, stabOk, dC, ev, fillD, pickCells, putAt, bnd, slD, List.getElem?_cons_zero, List.getElem?_cons_succ, dR.eq_20, oneC]) ?_
    simp -implicitDefEqProofs (disch := first | assumption | (simp only [wnA]; done) | (simp only [wnA]; omega) | omega | fail) [wkA, retV, stabOk, dC, ev, fillD, pickCells, putAt, bnd, slD, List.getElem?_cons_zero, List.getElem?_cons_succ, dR.eq_20, Mem.cell, Mem.row, wmA]
    exact h1 _ ⟨1, S.data.toList.take n, 0⟩ n (o1.set (Nat.le_refl _) _) ho
  | false =>
    simp -implicitDefEqProofs (disch := first | assumption | (simp only [wnA]; done) | (simp only [wnA]; omega) | omega | fail) [wkA, retV, stabOk, dC, ev, fillD, pickCells, putAt, bnd, slD, List.getElem?_cons_zero, List.getElem?_cons_succ, dR.eq_20, Mem.cell, Mem.row, wmA]
    refine c_digit ?_
    cases hdi : isDig c with
    | true =>
      have ho : oneL S.data.toList = (numV S.data.toList).map fun v => ((⟨2, S.data.toList.take (nN S.data.toList), ((v : Nat) : Int)⟩ : Tk), nN S.data.toList) := by rw [hr]; simp [oneL, hle, hdi]
      have hnl := nN_le S.data.toList
      simp -implicitDefEqProofs (disch := first | assumption | (simp only [wnA]; done) | (simp only [wnA]; omega) | omega | fail) [wkA, retV, stabOk, dC, ev, fillD, pickCells, putAt, bnd, slD, List.getElem?_cons_zero, List.getElem?_cons_succ, dR.eq_20, Mem.cell, Mem.row, wmA]
      refine c_tnum (o1.part hp) ht hE (by omega) (fun m2 o2 hn => ?_) fun m2 v o2 hn => ?_
      · rw [← o2.2 _ (by omega)] at gT
        have e0 : S.extract 0 0 = ⟨#[]⟩ := by rw [ext0]; rfl
        simp -implicitDefEqProofs (disch := first | assumption | (simp only [wnA]; done) | (simp only [wnA]; omega) | omega | fail) [wkA, retV, stabOk, dC, ev, fillD, pickCells, putAt, bnd, slD, List.getElem?_cons_zero, List.getElem?_cons_succ, dR.eq_20, Mem.cell, Mem.row, wmA, e0]
        refine SK_st (i := m.next) (o := 0) (by simp [wkA, retV, stabOk, dC, ev, fillD, pickCells, putAt, bnd, slD, List.getElem?_cons_zero, List.getElem?_cons_succ, dR.eq_20]) (e := 78) gT (by simp) (by simp [wkA, retV, stabOk, dC, ev, fillD, pickCells, putAt, bnd, slD, List.getElem?_cons_zero, List.getElem?_cons_succ, dR.eq_20]) (by simp [wkA, retV, stabOk, dC, ev, fillD, pickCells, putAt, bnd, slD, List.getElem?_cons_zero, List.getElem?_cons_succ, dR.eq_20, oneC]) ?_
        simp -implicitDefEqProofs (disch := first | assumption | (simp only [wnA]; done) | (simp only [wnA]; omega) | omega | fail) [wkA, retV, stabOk, dC, ev, fillD, pickCells, putAt, bnd, slD, List.getElem?_cons_zero, List.getElem?_cons_succ, dR.eq_20, Mem.cell, Mem.row, wmA]
        exact h0 _ ⟨2, [], 0⟩ ((o1.trans o2).set (Nat.le_refl _) _) (by rw [ho, hn]; rfl)
      · rw [← o2.2 _ (by omega)] at gT
        generalize nN S.data.toList = n at *
        have hn1 : n ≤ S.size := by omega
        have hn2 : (n : Int) ≤ (S.size : Int) := by omega
        simp -implicitDefEqProofs (disch := first | assumption | (simp only [wnA]; done) | (simp only [wnA]; omega) | omega | fail) [wkA, retV, stabOk, dC, ev, fillD, pickCells, putAt, bnd, slD, List.getElem?_cons_zero, List.getElem?_cons_succ, dR.eq_20, Mem.cell, Mem.row, wmA, hn1, hn2, ext0]
        refine SK_st (i := m.next) (o := 0) (by simp [wkA, retV, stabOk, dC, ev, fillD, pickCells, putAt, bnd, slD, List.getElem?_cons_zero, List.getElem?_cons_succ, dR.eq_20]) (e := 78) gT (by simp) (by simp [wkA, retV, stabOk, dC, ev, fillD, pickCells, putAt, bnd, slD, List.getElem?_cons_zero, List.getElem?_cons_succ, dR.eq_20]) (by simp [wkA, retV, stabOk, dC, ev, fillD, pickCells, putAt, bnd, slD, List.getElem?_cons_zero, List.getElem?_cons_succ, dR.eq_20, oneC]) ?_
        simp -implicitDefEqProofs (disch := first | assumption | (simp only [wnA]; done) | (simp only [wnA]; omega) | omega | fail) [wkA, retV, stabOk, dC, ev, fillD, pickCells, putAt, bnd, slD, List.getElem?_cons_zero, List.getElem?_cons_succ, dR.eq_20, Mem.cell, Mem.row, wmA]
        exact h1 _ ⟨2, S.data.toList.take n, v⟩ n ((o1.trans o2).set (Nat.le_refl _) _) (by rw [ho, hn]; rfl)
    | false =>
      simp -implicitDefEqProofs (disch := first | assumption | (simp only [wnA]; done) | (simp only [wnA]; omega) | omega | fail) [wkA, retV, stabOk, dC, ev, fillD, pickCells, putAt, bnd, slD, List.getElem?_cons_zero, List.getElem?_cons_succ, dR.eq_20, Mem.cell, Mem.row, wmA]
      by_cases h34 : c.toNat = 34
      · have i34 : (c.toNat : Int) = 34 := by omega
        have ho : oneL S.data.toList = (qd (S.data.toList.drop 1)).map fun p => (⟨3, p.2, 0⟩, p.1 + 1) := by rw [hr]; simp [oneL, hle, hdi, h34]
        simp -implicitDefEqProofs (disch := first | assumption | (simp only [wnA]; done) | (simp only [wnA]; omega) | omega | fail) [wkA, retV, stabOk, dC, ev, fillD, pickCells, putAt, bnd, slD, List.getElem?_cons_zero, List.getElem?_cons_succ, dR.eq_20, Mem.cell, Mem.row, wmA, i34]
        refine c_tquo hs1 (by omega) (fun m2 o2 hn => ?_) fun m2 n t o2 hn => ?_
        · rw [← o2.2 _ (by omega)] at gT
          simp -implicitDefEqProofs (disch := first | assumption | (simp only [wnA]; done) | (simp only [wnA]; omega) | omega | fail) [wkA, retV, stabOk, dC, ev, fillD, pickCells, putAt, bnd, slD, List.getElem?_cons_zero, List.getElem?_cons_succ, dR.eq_20, Mem.cell, Mem.row, wmA]
          refine SK_st (i := m.next) (o := 0) (by simp [wkA, retV, stabOk, dC, ev, fillD, pickCells, putAt, bnd, slD, List.getElem?_cons_zero, List.getElem?_cons_succ, dR.eq_20]) (e := 78) gT (by simp) (by simp [wkA, retV, stabOk, dC, ev, fillD, pickCells, putAt, bnd, slD, List.getElem?_cons_zero, List.getElem?_cons_succ, dR.eq_20]) (by simp [wkA, retV, stabOk, dC, ev, fillD, pickCells, putAt, bnd, slD, List.getElem?_cons_zero, List.getElem?_cons_succ, dR.eq_20, oneC]) ?_
          simp -implicitDefEqProofs (disch := first | assumption | (simp only [wnA]; done) | (simp only [wnA]; omega) | omega | fail) [wkA, retV, stabOk, dC, ev, fillD, pickCells, putAt, bnd, slD, List.getElem?_cons_zero, List.getElem?_cons_succ, dR.eq_20, Mem.cell, Mem.row, wmA]
          exact h0 _ ⟨3, [], 0⟩ ((o1.trans o2).set (Nat.le_refl _) _) (by rw [ho, hn]; rfl)
        · rw [← o2.2 _ (by omega)] at gT
          generalize hN : n + 1 = N at *
          simp -implicitDefEqProofs (disch := first | assumption | (simp only [wnA]; done) | (simp only [wnA]; omega) | omega | fail) [wkA, retV, stabOk, dC, ev, fillD, pickCells, putAt, bnd, slD, List.getElem?_cons_zero, List.getElem?_cons_succ, dR.eq_20, Mem.cell, Mem.row, wmA]
          refine SK_st (i := m.next) (o := 0) (by simp [wkA, retV, stabOk, dC, ev, fillD, pickCells, putAt, bnd, slD, List.getElem?_cons_zero, List.getElem?_cons_succ, dR.eq_20]) (e := 78) gT (by simp) (by simp [wkA, retV, stabOk, dC, ev, fillD, pickCells, putAt, bnd, slD, List.getElem?_cons_zero, List.getElem?_cons_succ, dR.eq_20]) (by simp [wkA, retV, stabOk, dC, ev, fillD, pickCells, putAt, bnd, slD, List.getElem?_cons_zero, List.getElem?_cons_succ, dR.eq_20, oneC]) ?_
          simp -implicitDefEqProofs (disch := first | assumption | (simp only [wnA]; done) | (simp only [wnA]; omega) | omega | fail) [wkA, retV, stabOk, dC, ev, fillD, pickCells, putAt, bnd, slD, List.getElem?_cons_zero, List.getElem?_cons_succ, dR.eq_20, Mem.cell, Mem.row, wmA]
          exact h1 _ ⟨3, t, 0⟩ N ((o1.trans o2).set (Nat.le_refl _) _) (by rw [ho, hn]; simp [hN])
      · have i34 : ¬ (c.toNat : Int) = 34 := by omega
        simp -implicitDefEqProofs (disch := first | assumption | (simp only [wnA]; done) | (simp only [wnA]; omega) | omega | fail) [wkA, retV, stabOk, dC, ev, fillD, pickCells, putAt, bnd, slD, List.getElem?_cons_zero, List.getElem?_cons_succ, dR.eq_20, Mem.cell, Mem.row, wmA, beqF i34]
        refine c_iByte ?_
        have hin := sgn_in c
        cases hsg : isSg c with
        | true =>
          have ho : oneL S.data.toList = some (⟨4, [c], 0⟩, 1) := by rw [hr]; simp [oneL, hle, hdi, h34, hsg]
          have hin2 : (0 : Int) ≤ Lib.indexByte [58, 59, 44, 123, 125] c := by
            rw [hsg] at hin
            exact of_decide_eq_true hin
          have e1 : S.extract 0 1 = ⟨⟨[c]⟩⟩ := by rw [ext0, hr]; rfl
          have hs1' : (1 : Int) ≤ (S.size : Int) := by omega
          simp -implicitDefEqProofs (disch := first | assumption | (simp only [wnA]; done) | (simp only [wnA]; omega) | omega | fail) [wkA, retV, stabOk, dC, ev, fillD, pickCells, putAt, bnd, slD, List.getElem?_cons_zero, List.getElem?_cons_succ, dR.eq_20, Mem.cell, Mem.row, wmA, hin2, hs1, hs1', e1]
          refine SK_st (i := m.next) (o := 0) (by simp [wkA, retV, stabOk, dC, ev, fillD, pickCells, putAt, bnd, slD, List.getElem?_cons_zero, List.getElem?_cons_succ, dR.eq_20]) (e := 78) gT (by simp) (by simp [wkA, retV, stabOk, dC, ev, fillD, pickCells, putAt, bnd, slD, List.getElem?_cons_zero, List.getElem?_cons_succ, dR.eq_20]) (by simp [wkA, retV, stabOk, dC, ev, fillD, pickCells, putAt, bnd, slD, List.getElem?_cons_zero, List.getElem?_cons_succ, dR.eq_20, oneC]) ?_
          simp -implicitDefEqProofs (disch := first | assumption | (simp only [wnA]; done) | (simp only [wnA]; omega) | omega | fail) [wkA, retV, stabOk, dC, ev, fillD, pickCells, putAt, bnd, slD, List.getElem?_cons_zero, List.getElem?_cons_succ, dR.eq_20, Mem.cell, Mem.row, wmA]
          exact h1 _ ⟨4, [c], 0⟩ 1 (o1.set (Nat.le_refl _) _) ho
        | false =>
          have ho : oneL S.data.toList = none := by rw [hr]; simp [oneL, hle, hdi, h34, hsg]
          have hin2 : Lib.indexByte [58, 59, 44, 123, 125] c < 0 := by
            rw [hsg] at hin
            have := of_decide_eq_false hin
            simp only [sgnS] at this
            omega
          simp -implicitDefEqProofs (disch := first | assumption | (simp only [wnA]; done) | (simp only [wnA]; omega) | omega | fail) [wkA, retV, stabOk, dC, ev, fillD, pickCells, putAt, bnd, slD, List.getElem?_cons_zero, List.getElem?_cons_succ, dR.eq_20, Mem.cell, Mem.row, wmA, leF hin2, rc41_0]
          refine SK_st (i := m.next) (o := 0) (by simp [wkA, retV, stabOk, dC, ev, fillD, pickCells, putAt, bnd, slD, List.getElem?_cons_zero, List.getElem?_cons_succ, dR.eq_20]) (e := 78) gT (by simp) (by simp [wkA, retV, stabOk, dC, ev, fillD, pickCells, putAt, bnd, slD, List.getElem?_cons_zero, List.getElem?_cons_succ, dR.eq_20]) (by simp [wkA, retV, stabOk, dC, ev, fillD, pickCells, putAt, bnd, slD, List.getElem?_cons_zero, List.getElem?_cons_succ, dR.eq_20, oneC]) ?_
          simp -implicitDefEqProofs (disch := first | assumption | (simp only [wnA]; done) | (simp only [wnA]; omega) | omega | fail) [wkA, retV, stabOk, dC, ev, fillD, pickCells, putAt, bnd, slD, List.getElem?_cons_zero, List.getElem?_cons_succ, dR.eq_20, Mem.cell, Mem.row, wmA]
          exact h0 _ ⟨0, [], 0⟩ (o1.set (Nat.le_refl _) _) ho
end Go.Proofs.YtgfkjldohilmkaaDoor.Ab
/- The tokens of a text: token.Cut. -/
set_option linter.unusedVariables false
set_option linter.unusedSimpArgs false
namespace Go.Proofs.YtgfkjldohilmkaaDoor.Ab
open Go Go.RowKit
set_option maxHeartbeats 1000000
set_option maxRecDepth 100000

def cellP (p : Tk × Nat) : List Value := p.1.cells p.2
theorem cellP_len (p : Tk × Nat) : (cellP p).length = 4 := rfl
theorem cellsP_len (l : List (Tk × Nat)) : (l.flatMap cellP).length = l.length * 4 := by
  induction l with
  | nil => rfl
  | cons p l ih => simp only [List.flatMap_cons, List.length_append, ih, cellP_len, List.length_cons]; omega
def faultV (no a : Nat) : Value := .iface 84 (.agg ⟨[.int .i64 (no : Int), .int .i64 (a : Int)]⟩)
theorem c_Wrap {w0 : World} {m : Mem} {no a : Nat} {Q : Value → Mem → Prop} (hq : Q (faultV no a) m) : AbC Tryd.prog w0 40 [.int .i64 (no : Int), .int .i64 (a : Int)] m Q := by
  refine AbC_fn ok40 (by simp) ?_
  simp -implicitDefEqProofs (disch := first | assumption | (simp only [wnA]; done) | (simp only [wnA]; omega) | omega | fail) [rc40, ro40, wkA, retV, stabOk, dC, ev, fillD, pickCells, putAt, bnd, slD, List.getElem?_cons_zero, List.getElem?_cons_succ, dR.eq_20, Mem.cell, Mem.row, wmA]
  exact hq

/-- The state in which a text is cut further. -/
def CS (S : ByteArray) (b : Mem) (k : Nat) (ts : Fr) (m : Mem) : Prop := ∃ (a : Nat) (out : List (Tk × Nat)) (ob : Option Nat), a + k = S.size ∧ Old b m ∧ ts 0 = .string S ∧ ts 4 = slV ob out.length 4 ∧ ts 5 = .int .i64 (a : Nat) ∧
  SlO m 78 4 ob (out.flatMap cellP) out.length ∧ (∀ i, ob = some i → b.next ≤ i) ∧ out.length ≤ a ∧ cutL 0 S.data.toList = preC out (cutL a (S.data.toList.drop a))
theorem CS.move {S : ByteArray} {b m : Mem} {k k' : Nat} {ts ts' : Fr} {a a' : Nat} {out : List (Tk × Nat)} {ob : Option Nat} (h1 : a + k = S.size) (h2 : Old b m) (h3 : ts 0 = .string S) (h4 : ts 4 = slV ob out.length 4) (h6 : SlO m 78 4 ob (out.flatMap cellP) out.length) (h7 : ∀ i, ob = some i → b.next ≤ i) (h8 : out.length ≤ a)
    (e0 : ts' 0 = ts 0) (e4 : ts' 4 = ts 4) (e5 : ts' 5 = .int .i64 (a' : Nat)) (ha : a ≤ a') (hk : a' + k' = S.size) (hc : cutL 0 S.data.toList = preC out (cutL a' (S.data.toList.drop a'))) : CS S b k' ts' m :=
  ⟨a', out, ob, hk, h2, by rw [e0, h3], by rw [e4, h4], e5, h6, h7, by omega, hc⟩

theorem w_cmt {w0 : World} {Q : AQ} {ts : Fr} {m : Mem} {S : ByteArray} {a : Nat} (hs : S.size ≤ 4096) (ha : a ≤ S.size) (t0 : ts 0 = .string S) (t5 : ts 5 = .int .i64 (a : Nat))
    (hq : ∀ ts', ts' 0 = ts 0 → ts' 4 = ts 4 → ts' 5 = .int .i64 ((a + runN no10 (S.data.toList.drop a) : Nat) : Int) → Q (.exit 0) ts' m) : LoopW (AbW Tryd.prog w0 rc29_1) Q ts m := by
  refine LoopW_of (fun k ts' m' => ∃ j, j + k = S.size ∧ m' = m ∧ ts' 0 = ts 0 ∧ ts' 4 = ts 4 ∧ ts' 5 = .int .i64 (j : Nat) ∧ a + runN no10 (S.data.toList.drop a) = j + runN no10 (S.data.toList.drop j)) (S.size - a) ?_ ?_
  · exact ⟨a, by omega, rfl, rfl, rfl, t5, rfl⟩
  · rintro k ts2 m2 K ⟨j, hj, rfl, s0, s4, s5, hn⟩ hK
    rw [t0] at s0
    simp -implicitDefEqProofs (disch := first | assumption | (simp only [wnA]; done) | (simp only [wnA]; omega) | omega | fail) [rc29_1, wkA, retV, stabOk, dC, ev, fillD, pickCells, putAt, bnd, slD, List.getElem?_cons_zero, List.getElem?_cons_succ, dR.eq_20, Mem.cell, Mem.row, wmA, s0, s5]
    rcases hd : S.data.toList.drop j with _ | ⟨c, r⟩
    · have hjj := drop_nil hd (by omega)
      have hlt : ¬ j < S.size := by omega
      rw [hd] at hn
      simp -implicitDefEqProofs (disch := first | assumption | (simp only [wnA]; done) | (simp only [wnA]; omega) | omega | fail) [wkA, retV, stabOk, dC, ev, fillD, pickCells, putAt, bnd, slD, List.getElem?_cons_zero, List.getElem?_cons_succ, dR.eq_20, Mem.cell, Mem.row, wmA, s0, s5, hlt]
      exact hq _ (by simp [s0, t0]) (by simp [s4]) (by simp [s5, hn, runN])
    · obtain ⟨hlt, g1, hr⟩ := at_S hd
      have w1 : IntKind.i64.wrap ((j : Int) + 1) = (j : Int) + 1 := w64 (by omega)
      rw [hd] at hn
      by_cases h10 : c.toNat = 10
      · have i10 : (c.toNat : Int) = 10 := by omega
        simp -implicitDefEqProofs (disch := first | assumption | (simp only [wnA]; done) | (simp only [wnA]; omega) | omega | fail) [wkA, retV, stabOk, dC, ev, fillD, pickCells, putAt, bnd, slD, List.getElem?_cons_zero, List.getElem?_cons_succ, dR.eq_20, Mem.cell, Mem.row, wmA, s0, s5, hlt, g1, getOf g1, i10]
        exact hq _ (by simp [s0, t0]) (by simp [s4]) (by rw [hn]; simp [s5, runN, no10, h10])
      · have i10 : ¬ (c.toNat : Int) = 10 := by omega
        simp -implicitDefEqProofs (disch := first | assumption | (simp only [wnA]; done) | (simp only [wnA]; omega) | omega | fail) [wkA, retV, stabOk, dC, ev, fillD, pickCells, putAt, bnd, slD, List.getElem?_cons_zero, List.getElem?_cons_succ, dR.eq_20, Mem.cell, Mem.row, wmA, s0, s5, hlt, g1, getOf g1, bneT i10, rc29_0, w1]
        exact hK (k - 1) _ m2 (by omega) ⟨j + 1, by omega, rfl, by simp [s0, t0], by simp [s4], by simp, by rw [hn, hr]; simp only [runN, no10, bne_iff_ne, ne_eq, h10, not_false_eq_true, if_true]; omega⟩

theorem w_cut {w0 : World} {Q : AQ} {ts : Fr} {b m : Mem} {S : ByteArray} {k : Nat} (hp : Part L0 b) (ht : Ten w0) (hE : ErrV w0) (hs : S.size ≤ 4096) (hst : CS S b k ts m)
    (hg : ∀ k' ts' m', k' < k → CS S b k' ts' m' → Q (.goto 0) ts' m')
    (he : ∀ (ts' : Fr) m' (a : Nat), Old b m' → ts' 2 = .slice none 0 0 → ts' 3 = faultV 1 a → cutL 0 S.data.toList = .inl a → Q .ret ts' m')
    (hq : ∀ (ts' : Fr) m' i us, Old b m' → ts' 2 = slV (some i) us.length 4 → ts' 3 = .nilIface → SlO m' 78 4 (some i) (us.flatMap cellP) us.length → b.next ≤ i → us.length ≤ S.size + 1 → cutL 0 S.data.toList = .inr us → Q .ret ts' m') :
    AbW Tryd.prog w0 rc29_6 Q ts m := by
  obtain ⟨a, out, ob, h1, h2, t0, t4, t5, h6, h7, h8, hc⟩ := hst
  have hl := cellsP_len out
  simp -implicitDefEqProofs (disch := first | assumption | (simp only [wnA]; done) | (simp only [wnA]; omega) | omega | fail) [rc29_6, wkA, retV, stabOk, dC, ev, fillD, pickCells, putAt, bnd, slD, List.getElem?_cons_zero, List.getElem?_cons_succ, dR.eq_20, Mem.cell, Mem.row, wmA, t0, t5]
  rcases hd : S.data.toList.drop a with _ | ⟨c, r⟩
  · have haa := drop_nil hd (by omega)
    have ia : (a : Int) = (S.size : Int) := by omega
    rw [hd, cutL_nil] at hc
    simp -implicitDefEqProofs (disch := first | assumption | (simp only [wnA]; done) | (simp only [wnA]; omega) | omega | fail) [wkA, retV, stabOk, dC, ev, fillD, pickCells, putAt, bnd, slD, List.getElem?_cons_zero, List.getElem?_cons_succ, dR.eq_20, Mem.cell, Mem.row, wmA, beqT ia, t4, t5]
    rw [SK_bsl (cs := cellP (endT, a)) (by simp [wkA, retV, stabOk, dC, ev, fillD, pickCells, putAt, bnd, slD, List.getElem?_cons_zero, List.getElem?_cons_succ, dR.eq_20, cellP, Tk.cells, endT]) (by simp [cellP, Tk.cells, oneC])]
    simp -implicitDefEqProofs (disch := first | assumption | (simp only [wnA]; done) | (simp only [wnA]; omega) | omega | fail) [wkA, retV, stabOk, dC, ev, fillD, pickCells, putAt, bnd, slD, List.getElem?_cons_zero, List.getElem?_cons_succ, dR.eq_20, Mem.cell, Mem.row, wmA, t4]
    refine SK_ap (h6.push _) (by simp [wkA, retV, stabOk, dC, ev, fillD, pickCells, putAt, bnd, slD, List.getElem?_cons_zero, List.getElem?_cons_succ, dR.eq_20, t4]) (ys := cellP (endT, a)) (by simp -implicitDefEqProofs (disch := first | assumption | (simp only [wnA]; done) | (simp only [wnA]; omega) | omega | fail) [wkA, retV, stabOk, dC, ev, fillD, pickCells, putAt, bnd, slD, List.getElem?_cons_zero, List.getElem?_cons_succ, dR.eq_20, elemsV, Mem.cell, Mem.row, wmA, cellP, Tk.cells]) (k := 1) (by simp [wkA, retV, stabOk, dC, ev, fillD, pickCells, putAt, bnd, slD, List.getElem?_cons_zero, List.getElem?_cons_succ, dR.eq_20]) (by simp) (by simp [oneC, cellP, Tk.cells]) (by omega) (by simp only [maxLen]; omega) (by simp [cellP, Tk.cells]) ?_
    simp -implicitDefEqProofs (disch := first | assumption | (simp only [wnA]; done) | (simp only [wnA]; omega) | omega | fail) [wkA, retV, stabOk, dC, ev, fillD, pickCells, putAt, bnd, slD, List.getElem?_cons_zero, List.getElem?_cons_succ, dR.eq_20, Mem.cell, Mem.row, wmA]
    have hnew : SlO (((m.push (.own (cellP (endT, a)) 78)).kill ob).push (.own (out.flatMap cellP ++ cellP (endT, a)) 78)) 78 4 (some (m.next + 1)) (out.flatMap cellP ++ cellP (endT, a)) (out.length + 1) := SlO.new (m := (m.push (.own (cellP (endT, a)) 78)).kill ob) (e := 78) (sz := 4) (n := out.length + 1) (cs := out.flatMap cellP ++ cellP (endT, a)) (by rw [List.length_append, hl, cellP_len]; omega)
    refine hq _ _ (m.next + 1) (out ++ [(endT, a)]) (((h2.push _).kill h7).push _) (by simp) (by simp) ?_ (by have := h2.1; omega) (by simp; omega) (by rw [hc]; rfl)
    simpa using hnew
  · obtain ⟨hlt, g1, hr⟩ := at_S hd
    have ia : ¬ (a : Int) = (S.size : Int) := by omega
    have w1 : IntKind.i64.wrap ((a : Int) + 1) = (a : Int) + 1 := w64 (by omega)
    rw [hd] at hc
    simp -implicitDefEqProofs (disch := first | assumption | (simp only [wnA]; done) | (simp only [wnA]; omega) | omega | fail) [wkA, retV, stabOk, dC, ev, fillD, pickCells, putAt, bnd, slD, List.getElem?_cons_zero, List.getElem?_cons_succ, dR.eq_20, Mem.cell, Mem.row, wmA, beqF ia]
    have bl : isBl c = true → ∀ ts' : Fr, ts' 0 = ts 0 → ts' 4 = ts 4 → ts' 5 = .int .i64 ((a + 1 : Nat) : Int) → Q (.goto 0) ts' m := fun hb ts' e0 e4 e5 =>
      hg (k - 1) ts' m (by omega) (CS.move h1 h2 t0 t4 h6 h7 h8 e0 e4 e5 (by omega) (by omega) (by rw [hc, cutL_bl hb, hr]))
    by_cases h32 : c.toNat = 32
    · have i32 : (c.toNat : Int) = 32 := by omega
      simp -implicitDefEqProofs (disch := first | assumption | (simp only [wnA]; done) | (simp only [wnA]; omega) | omega | fail) [wkA, retV, stabOk, dC, ev, fillD, pickCells, putAt, bnd, slD, List.getElem?_cons_zero, List.getElem?_cons_succ, dR.eq_20, Mem.cell, Mem.row, wmA, t0, t5, hlt, g1, getOf g1, rc29_5, i32, w1]
      exact bl (by simp [isBl, h32]) _ (by simp) (by simp) (by simp)
    · have i32 : ¬ (c.toNat : Int) = 32 := by omega
      by_cases h9 : c.toNat = 9
      · have i9 : (c.toNat : Int) = 9 := by omega
        simp -implicitDefEqProofs (disch := first | assumption | (simp only [wnA]; done) | (simp only [wnA]; omega) | omega | fail) [wkA, retV, stabOk, dC, ev, fillD, pickCells, putAt, bnd, slD, List.getElem?_cons_zero, List.getElem?_cons_succ, dR.eq_20, Mem.cell, Mem.row, wmA, t0, t5, hlt, g1, getOf g1, rc29_5, i9, w1]
        exact bl (by simp [isBl, h9]) _ (by simp) (by simp) (by simp)
      · have i9 : ¬ (c.toNat : Int) = 9 := by omega
        by_cases h10 : c.toNat = 10
        · have i10 : (c.toNat : Int) = 10 := by omega
          simp -implicitDefEqProofs (disch := first | assumption | (simp only [wnA]; done) | (simp only [wnA]; omega) | omega | fail) [wkA, retV, stabOk, dC, ev, fillD, pickCells, putAt, bnd, slD, List.getElem?_cons_zero, List.getElem?_cons_succ, dR.eq_20, Mem.cell, Mem.row, wmA, t0, t5, hlt, g1, getOf g1, rc29_5, i10, w1]
          exact bl (by simp [isBl, h10]) _ (by simp) (by simp) (by simp)
        · have i10 : ¬ (c.toNat : Int) = 10 := by omega
          have hnb : isBl c = false := by simp [isBl, h32, h9, h10]
          simp -implicitDefEqProofs (disch := first | assumption | (simp only [wnA]; done) | (simp only [wnA]; omega) | omega | fail) [wkA, retV, stabOk, dC, ev, fillD, pickCells, putAt, bnd, slD, List.getElem?_cons_zero, List.getElem?_cons_succ, dR.eq_20, Mem.cell, Mem.row, wmA, t0, t5, hlt, g1, getOf g1, rc29_5, beqF i32, beqF i9, beqF i10, rc29_4]
          by_cases h35 : c.toNat = 35
          · have i35 : (c.toNat : Int) = 35 := by omega
            have hcm := run_cm (r := r) h35
            have hle := runN_le no10 (c :: r)
            have hdl := congrArg List.length hd
            rw [List.length_drop] at hdl
            have hsz : S.data.toList.length = S.size := by simp
            simp -implicitDefEqProofs (disch := first | assumption | (simp only [wnA]; done) | (simp only [wnA]; omega) | omega | fail) [wkA, retV, stabOk, dC, ev, fillD, pickCells, putAt, bnd, slD, List.getElem?_cons_zero, List.getElem?_cons_succ, dR.eq_20, Mem.cell, Mem.row, wmA, t0, t5, hlt, g1, getOf g1, i35]
            refine w_cmt (S := S) (a := a) hs (by omega) (by simp [t0]) (by simp [t5]) fun ts' e0 e4 e5 => ?_
            simp -implicitDefEqProofs (disch := first | assumption | (simp only [wnA]; done) | (simp only [wnA]; omega) | omega | fail) [wkA, retV, stabOk, dC, ev, fillD, pickCells, putAt, bnd, slD, List.getElem?_cons_zero, List.getElem?_cons_succ, dR.eq_20]
            rw [hd] at e5
            exact hg (S.size - (a + runN no10 (c :: r))) ts' m (by omega) (CS.move h1 h2 t0 t4 h6 h7 h8 (by rw [e0]; simp) (by rw [e4]; simp) e5 (by omega) (by omega) (by rw [hc, cutL_cm hnb h35, ← hd, List.drop_drop]))
          · have i35 : ¬ (c.toNat : Int) = 35 := by omega
            have ha1 : a ≤ S.size := by omega
            have ha2 : (a : Int) ≤ (S.size : Int) := by omega
            have hx : (S.extract a S.size).data.toList = S.data.toList.drop a := by
              rw [Lib.extract_eq]
              show List.take _ _ = _
              exact List.take_of_length_le (by simp)
            have hxs : (S.extract a S.size).size = S.size - a := by simp
            simp -implicitDefEqProofs (disch := first | assumption | (simp only [wnA]; done) | (simp only [wnA]; omega) | omega | fail) [wkA, retV, stabOk, dC, ev, fillD, pickCells, putAt, bnd, slD, List.getElem?_cons_zero, List.getElem?_cons_succ, dR.eq_20, Mem.cell, Mem.row, wmA, t0, t5, hlt, ha1, ha2, g1, getOf g1, beqF i35, rc29_3]
            refine c_tone (h2.part hp) ht hE (by omega) (by omega) (fun m1 t o1 hn => ?_) fun m1 t n o1 hn => ?_
            · rw [hx, hd] at hn
              simp -implicitDefEqProofs (disch := first | assumption | (simp only [wnA]; done) | (simp only [wnA]; omega) | omega | fail) [wkA, retV, stabOk, dC, ev, fillD, pickCells, putAt, bnd, slD, List.getElem?_cons_zero, List.getElem?_cons_succ, dR.eq_20, Mem.cell, Mem.row, wmA, Tk.cells]
              refine SK_st (i := m1.next) (o := 0) (by simp [wkA, retV, stabOk, dC, ev, fillD, pickCells, putAt, bnd, slD, List.getElem?_cons_zero, List.getElem?_cons_succ, dR.eq_20]) (e := 78) (by simp -implicitDefEqProofs (disch := first | assumption | (simp only [wnA]; done) | (simp only [wnA]; omega) | omega | fail) [Mem.cell, Mem.row, wmA]; rfl) (by simp) (by simp [wkA, retV, stabOk, dC, ev, fillD, pickCells, putAt, bnd, slD, List.getElem?_cons_zero, List.getElem?_cons_succ, dR.eq_20]) (by simp [wkA, retV, stabOk, dC, ev, fillD, pickCells, putAt, bnd, slD, List.getElem?_cons_zero, List.getElem?_cons_succ, dR.eq_20, oneC]) ?_
              simp -implicitDefEqProofs (disch := first | assumption | (simp only [wnA]; done) | (simp only [wnA]; omega) | omega | fail) [wkA, retV, stabOk, dC, ev, fillD, pickCells, putAt, bnd, slD, List.getElem?_cons_zero, List.getElem?_cons_succ, dR.eq_20, Mem.cell, Mem.row, wmA, t5]
              refine c_Wrap (no := 1) ?_
              simp -implicitDefEqProofs (disch := first | assumption | (simp only [wnA]; done) | (simp only [wnA]; omega) | omega | fail) [wkA, retV, stabOk, dC, ev, fillD, pickCells, putAt, bnd, slD, List.getElem?_cons_zero, List.getElem?_cons_succ, dR.eq_20, Mem.cell, Mem.row, wmA]
              exact he _ _ a (((h2.trans o1).push _).set (by have := h2.1; have := o1.1; omega) _) (by simp) (by simp) (by rw [hc, cutL_none hnb h35 hn]; rfl)
            · rw [hx, hd] at hn
              have hnl := oneL_len hn
              have hdl := congrArg List.length hd
              rw [List.length_drop] at hdl
              have hsz : S.data.toList.length = S.size := by simp
              have n0 : ¬ (n : Int) = 0 := by omega
              simp -implicitDefEqProofs (disch := first | assumption | (simp only [wnA]; done) | (simp only [wnA]; omega) | omega | fail) [wkA, retV, stabOk, dC, ev, fillD, pickCells, putAt, bnd, slD, List.getElem?_cons_zero, List.getElem?_cons_succ, dR.eq_20, Mem.cell, Mem.row, wmA, Tk.cells]
              refine SK_st (i := m1.next) (o := 0) (by simp [wkA, retV, stabOk, dC, ev, fillD, pickCells, putAt, bnd, slD, List.getElem?_cons_zero, List.getElem?_cons_succ, dR.eq_20]) (e := 78) (by simp -implicitDefEqProofs (disch := first | assumption | (simp only [wnA]; done) | (simp only [wnA]; omega) | omega | fail) [Mem.cell, Mem.row, wmA]; rfl) (by simp) (by simp [wkA, retV, stabOk, dC, ev, fillD, pickCells, putAt, bnd, slD, List.getElem?_cons_zero, List.getElem?_cons_succ, dR.eq_20]) (by simp [wkA, retV, stabOk, dC, ev, fillD, pickCells, putAt, bnd, slD, List.getElem?_cons_zero, List.getElem?_cons_succ, dR.eq_20, oneC]) ?_
              simp -implicitDefEqProofs (disch := first | assumption | (simp only [wnA]; done) | (simp only [wnA]; omega) | omega | fail) [wkA, retV, stabOk, dC, ev, fillD, pickCells, putAt, bnd, slD, List.getElem?_cons_zero, List.getElem?_cons_succ, dR.eq_20, Mem.cell, Mem.row, wmA, beqF n0, rc29_2, t5]
              refine SK_st (i := m1.next) (o := 3) (by simp [wkA, retV, stabOk, dC, ev, fillD, pickCells, putAt, bnd, slD, List.getElem?_cons_zero, List.getElem?_cons_succ, dR.eq_20]) (e := 78) (by simp -implicitDefEqProofs (disch := first | assumption | (simp only [wnA]; done) | (simp only [wnA]; omega) | omega | fail) [Mem.cell, Mem.row, wmA]; rfl) (by simp) (by simp [wkA, retV, stabOk, dC, ev, fillD, pickCells, putAt, bnd, slD, List.getElem?_cons_zero, List.getElem?_cons_succ, dR.eq_20]) (by simp [wkA, retV, stabOk, dC, ev, fillD, pickCells, putAt, bnd, slD, List.getElem?_cons_zero, List.getElem?_cons_succ, dR.eq_20, oneC]) ?_
              simp -implicitDefEqProofs (disch := first | assumption | (simp only [wnA]; done) | (simp only [wnA]; omega) | omega | fail) [wkA, retV, stabOk, dC, ev, fillD, pickCells, putAt, bnd, slD, List.getElem?_cons_zero, List.getElem?_cons_succ, dR.eq_20, Mem.cell, Mem.row, wmA, t4]
              rw [SK_bsl (cs := cellP (t, a)) (by simp [wkA, retV, stabOk, dC, ev, fillD, pickCells, putAt, bnd, slD, List.getElem?_cons_zero, List.getElem?_cons_succ, dR.eq_20, cellP, Tk.cells]) (by simp [cellP, Tk.cells, oneC])]
              have h61 : SlO m1 78 4 ob (out.flatMap cellP) out.length := h6.keep (by have := o1.1; omega) fun i hi => o1.2 i (by subst hi; exact h6.lt)
              have hne : ob ≠ some m1.next := fun e => by subst e; have := h61.lt; omega
              have hM := fun E1 E2 E3 => (((h61.push E1).set hne E2).set hne E3)
              have oM := fun E1 E2 E3 => ((((h2.trans o1).push E1).set (show b.next ≤ m1.next by have := h2.1; have := o1.1; omega) E2).set (show b.next ≤ m1.next by have := h2.1; have := o1.1; omega) E3)
              have nM : ∀ E1 E2 E3, (((m1.push E1).set m1.next E2).set m1.next E3).next = m1.next + 1 := fun _ _ _ => rfl
              have w2 : IntKind.i64.wrap ((a : Int) + (n : Int)) = ((a + n : Nat) : Int) := by rw [w64 (by omega)]; omega
              simp -implicitDefEqProofs (disch := first | assumption | (simp only [wnA]; done) | (simp only [wnA]; omega) | omega | fail) [wkA, retV, stabOk, dC, ev, fillD, pickCells, putAt, bnd, slD, List.getElem?_cons_zero, List.getElem?_cons_succ, dR.eq_20, Mem.cell, Mem.row, wmA, t4]
              refine SK_ap (ob := ob) (cs := out.flatMap cellP) (n := out.length) ((hM _ _ _).push _) (by simp [wkA, retV, stabOk, dC, ev, fillD, pickCells, putAt, bnd, slD, List.getElem?_cons_zero, List.getElem?_cons_succ, dR.eq_20, t4]) (ys := cellP (t, a)) (by simp -implicitDefEqProofs (disch := first | assumption | (simp only [wnA]; done) | (simp only [wnA]; omega) | omega | fail) [wkA, retV, stabOk, dC, ev, fillD, pickCells, putAt, bnd, slD, List.getElem?_cons_zero, List.getElem?_cons_succ, dR.eq_20, elemsV, Mem.cell, Mem.row, wmA, cellP, Tk.cells]) (k := 1) (by simp [wkA, retV, stabOk, dC, ev, fillD, pickCells, putAt, bnd, slD, List.getElem?_cons_zero, List.getElem?_cons_succ, dR.eq_20]) (by simp) (by simp [oneC, cellP, Tk.cells]) (by omega) (by simp only [maxLen]; omega) (by simp [cellP, Tk.cells]) ?_
              simp -implicitDefEqProofs (disch := first | assumption | (simp only [wnA]; done) | (simp only [wnA]; omega) | omega | fail) [wkA, retV, stabOk, dC, ev, fillD, pickCells, putAt, bnd, slD, List.getElem?_cons_zero, List.getElem?_cons_succ, dR.eq_20, Mem.cell, Mem.row, wmA, w2, t5]
              refine hg (k - n) _ _ (by omega) ?_
              refine ⟨a + n, out ++ [(t, a)], some (m1.next + 1 + 1), by omega, ((((oM _ _ _).push _).kill h7).push _), by simp [t0], by simp, by simp, ?_, ?_, by simp; omega, ?_⟩
              · have e1 : (out ++ [(t, a)]).flatMap cellP = out.flatMap cellP ++ cellP (t, a) := by simp
                have e2 : (out ++ [(t, a)]).length = out.length + 1 := by simp
                rw [e1, e2]
                exact SlO.new (by rw [List.length_append, hl, cellP_len]; omega)
              · intro i hi
                have := h2.1; have := o1.1
                simp at hi; omega
              · rw [hc, cutL_some hnb h35 hn, preC_pre, ← hd, List.drop_drop]
/-- A text's tokens, or where it has none. -/
theorem c_tCut {w0 : World} {m : Mem} {S : ByteArray} {Q : Value → Mem → Prop} (hp : Part L0 m) (ht : Ten w0) (hE : ErrV w0)
    (hb : 4096 < S.size → ∀ m', Old m m' → Q (.tuple ⟨[.slice none 0 0, faultV 7 0]⟩) m')
    (he : S.size ≤ 4096 → ∀ m' a, Old m m' → cutL 0 S.data.toList = .inl a → Q (.tuple ⟨[.slice none 0 0, faultV 1 a]⟩) m')
    (hq : S.size ≤ 4096 → ∀ m' i us, Old m m' → SlO m' 78 4 (some i) (us.flatMap cellP) us.length → m.next ≤ i → us.length ≤ S.size + 1 → cutL 0 S.data.toList = .inr us → Q (.tuple ⟨[slV (some i) us.length 4, .nilIface]⟩) m') :
    AbC Tryd.prog w0 29 [.string S] m Q := by
  refine AbC_fn ok29 (by simp) ?_
  by_cases hs : 4096 < S.size
  · have his : (4096 : Int) < (S.size : Int) := by omega
    simp -implicitDefEqProofs (disch := first | assumption | (simp only [wnA]; done) | (simp only [wnA]; omega) | omega | fail) [rc29, ro29, wkA, retV, stabOk, dC, ev, fillD, pickCells, putAt, bnd, slD, List.getElem?_cons_zero, List.getElem?_cons_succ, dR.eq_20, Mem.cell, Mem.row, wmA]
    refine JumpW_of (fun _ _ _ _ => False) (fun J hJ => ?_) (fun _ _ _ _ h => h.elim) (fun _ _ _ _ h => h.elim)
    simp -implicitDefEqProofs (disch := first | assumption | (simp only [wnA]; done) | (simp only [wnA]; omega) | omega | fail) [wkA, retV, stabOk, dC, ev, fillD, pickCells, putAt, bnd, slD, List.getElem?_cons_zero, List.getElem?_cons_succ, dR.eq_20, Mem.cell, Mem.row, wmA, gtT his]
    refine c_Wrap (no := 7) (a := 0) ?_
    simp -implicitDefEqProofs (disch := first | assumption | (simp only [wnA]; done) | (simp only [wnA]; omega) | omega | fail) [wkA, retV, stabOk, dC, ev, fillD, pickCells, putAt, bnd, slD, List.getElem?_cons_zero, List.getElem?_cons_succ, dR.eq_20, Mem.cell, Mem.row, wmA]
    exact hb hs m (Old.refl m)
  · have hs' : S.size ≤ 4096 := by omega
    have his : (S.size : Int) ≤ 4096 := by omega
    have r0 : ∀ (ts' : Fr) m' (a : Nat), Old m m' → ts' 2 = .slice none 0 0 → ts' 3 = faultV 1 a → cutL 0 S.data.toList = .inl a → bodyA ro29 Q .ret ts' m' := fun ts' m' a o e2 e3 hn => by
      simp -implicitDefEqProofs (disch := first | assumption | (simp only [wnA]; done) | (simp only [wnA]; omega) | omega | fail) [ro29, wkA, retV, stabOk, dC, ev, fillD, pickCells, putAt, bnd, slD, List.getElem?_cons_zero, List.getElem?_cons_succ, dR.eq_20, Mem.cell, Mem.row, wmA, e2, e3]
      exact he hs' m' a o hn
    have r1 : ∀ (ts' : Fr) m' i us, Old m m' → ts' 2 = slV (some i) us.length 4 → ts' 3 = .nilIface → SlO m' 78 4 (some i) (us.flatMap cellP) us.length → m.next ≤ i → us.length ≤ S.size + 1 → cutL 0 S.data.toList = .inr us → bodyA ro29 Q .ret ts' m' := fun ts' m' i us o e2 e3 h1 h2 h3 hn => by
      simp -implicitDefEqProofs (disch := first | assumption | (simp only [wnA]; done) | (simp only [wnA]; omega) | omega | fail) [ro29, wkA, retV, stabOk, dC, ev, fillD, pickCells, putAt, bnd, slD, List.getElem?_cons_zero, List.getElem?_cons_succ, dR.eq_20, Mem.cell, Mem.row, wmA, e2, e3]
      exact hq hs' m' i us o h1 h2 h3 hn
    simp only [ro29] at r0 r1
    simp -implicitDefEqProofs (disch := first | assumption | (simp only [wnA]; done) | (simp only [wnA]; omega) | omega | fail) [rc29, ro29, wkA, retV, stabOk, dC, ev, fillD, pickCells, putAt, bnd, slD, List.getElem?_cons_zero, List.getElem?_cons_succ, dR.eq_20, Mem.cell, Mem.row, wmA]
    refine JumpW_of (fun x k ts m' => CS S m k ts m') (fun J hJ => ?_) (fun k ts m' J hst hJ => ?_) (fun k ts m' J hst hJ => ?_)
    · simp -implicitDefEqProofs (disch := first | assumption | (simp only [wnA]; done) | (simp only [wnA]; omega) | omega | fail) [wkA, retV, stabOk, dC, ev, fillD, pickCells, putAt, bnd, slD, List.getElem?_cons_zero, List.getElem?_cons_succ, dR.eq_20, Mem.cell, Mem.row, wmA, gtF his, rc29_7]
      refine w_cut hp ht hE hs' (k := S.size) ⟨0, [], none, by omega, Old.refl m, by simp [frA_at], by simp [slV], by simp, ⟨rfl, rfl⟩, (fun i hi => by cases hi), Nat.le_refl _, by rw [preC_nil]; rfl⟩ (fun k' ts' m' _ hst => ?_) (fun ts' m' a o e2 e3 hn => ?_) fun ts' m' i us o e2 e3 h1 h2 h3 hn => ?_
      · simp -implicitDefEqProofs (disch := first | assumption | (simp only [wnA]; done) | (simp only [wnA]; omega) | omega | fail) [wkA, retV, stabOk, dC, ev, fillD, pickCells, putAt, bnd, slD, List.getElem?_cons_zero, List.getElem?_cons_succ, dR.eq_20]
        exact .inl (hJ false k' ts' m' hst)
      · simp -implicitDefEqProofs (disch := first | assumption | (simp only [wnA]; done) | (simp only [wnA]; omega) | omega | fail) [wkA, retV, stabOk, dC, ev, fillD, pickCells, putAt, bnd, slD, List.getElem?_cons_zero, List.getElem?_cons_succ, dR.eq_20] at r0 ⊢
        exact r0 ts' m' a o e2 e3 hn
      · simp -implicitDefEqProofs (disch := first | assumption | (simp only [wnA]; done) | (simp only [wnA]; omega) | omega | fail) [wkA, retV, stabOk, dC, ev, fillD, pickCells, putAt, bnd, slD, List.getElem?_cons_zero, List.getElem?_cons_succ, dR.eq_20] at r1 ⊢
        exact r1 ts' m' i us o e2 e3 h1 h2 h3 hn
    · simp -implicitDefEqProofs (disch := first | assumption | (simp only [wnA]; done) | (simp only [wnA]; omega) | omega | fail) [wkA, retV, stabOk, dC, ev, fillD, pickCells, putAt, bnd, slD, List.getElem?_cons_zero, List.getElem?_cons_succ, dR.eq_20, Mem.cell, Mem.row, wmA, rc29_8]
      refine w_cut hp ht hE hs' hst (fun k' ts' m' hk hst => ?_) (fun ts' m' a o e2 e3 hn => ?_) fun ts' m' i us o e2 e3 h1 h2 h3 hn => ?_
      · simp -implicitDefEqProofs (disch := first | assumption | (simp only [wnA]; done) | (simp only [wnA]; omega) | omega | fail) [wkA, retV, stabOk, dC, ev, fillD, pickCells, putAt, bnd, slD, List.getElem?_cons_zero, List.getElem?_cons_succ, dR.eq_20]
        exact .inl (hJ false k' ts' m' hk hst)
      · simp -implicitDefEqProofs (disch := first | assumption | (simp only [wnA]; done) | (simp only [wnA]; omega) | omega | fail) [wkA, retV, stabOk, dC, ev, fillD, pickCells, putAt, bnd, slD, List.getElem?_cons_zero, List.getElem?_cons_succ, dR.eq_20] at r0 ⊢
        exact r0 ts' m' a o e2 e3 hn
      · simp -implicitDefEqProofs (disch := first | assumption | (simp only [wnA]; done) | (simp only [wnA]; omega) | omega | fail) [wkA, retV, stabOk, dC, ev, fillD, pickCells, putAt, bnd, slD, List.getElem?_cons_zero, List.getElem?_cons_succ, dR.eq_20] at r1 ⊢
        exact r1 ts' m' i us o e2 e3 h1 h2 h3 hn
    · simp -implicitDefEqProofs (disch := first | assumption | (simp only [wnA]; done) | (simp only [wnA]; omega) | omega | fail) [wkA, retV, stabOk, dC, ev, fillD, pickCells, putAt, bnd, slD, List.getElem?_cons_zero, List.getElem?_cons_succ, dR.eq_20, Mem.cell, Mem.row, wmA, rc29_8]
      refine w_cut hp ht hE hs' hst (fun k' ts' m' hk hst => ?_) (fun ts' m' a o e2 e3 hn => ?_) fun ts' m' i us o e2 e3 h1 h2 h3 hn => ?_
      · simp -implicitDefEqProofs (disch := first | assumption | (simp only [wnA]; done) | (simp only [wnA]; omega) | omega | fail) [wkA, retV, stabOk, dC, ev, fillD, pickCells, putAt, bnd, slD, List.getElem?_cons_zero, List.getElem?_cons_succ, dR.eq_20]
        exact .inl (hJ false k' ts' m' hk hst)
      · simp -implicitDefEqProofs (disch := first | assumption | (simp only [wnA]; done) | (simp only [wnA]; omega) | omega | fail) [wkA, retV, stabOk, dC, ev, fillD, pickCells, putAt, bnd, slD, List.getElem?_cons_zero, List.getElem?_cons_succ, dR.eq_20] at r0 ⊢
        exact r0 ts' m' a o e2 e3 hn
      · simp -implicitDefEqProofs (disch := first | assumption | (simp only [wnA]; done) | (simp only [wnA]; omega) | omega | fail) [wkA, retV, stabOk, dC, ev, fillD, pickCells, putAt, bnd, slD, List.getElem?_cons_zero, List.getElem?_cons_succ, dR.eq_20] at r1 ⊢
        exact r1 ts' m' i us o e2 e3 h1 h2 h3 hn
end Go.Proofs.YtgfkjldohilmkaaDoor.Ab

set_option linter.unusedVariables false
set_option linter.unusedSimpArgs false
namespace Go.Proofs.YtgfkjldohilmkaaDoor.Ab
open Go Go.RowKit
set_option maxHeartbeats 4000000
set_option maxRecDepth 100000

def escC (c : UInt8) : Option (List UInt8) :=
  if c.toNat = 13 then some [92, 114] else if c.toNat = 10 then some [92, 110] else if c.toNat < 32 ∨ 126 < c.toNat then none else if c.toNat = 34 ∨ c.toNat = 92 then some [92, c] else some [c]
def escL : List UInt8 → Option (List UInt8)
  | [] => some []
  | c :: l => match escC c, escL l with
    | some a, some b => some (a ++ b)
    | _, _ => none
theorem escL_snoc : ∀ {l e : List UInt8} {c : UInt8} {a : List UInt8}, escL l = some e → escC c = some a → escL (l ++ [c]) = some (e ++ a)
  | [], e, c, a, h, ha => by simp [escL] at h; subst h; simp [escL, ha]
  | x :: l, e, c, a, h, ha => by
    simp only [escL] at h
    split at h
    · rename_i p q hp hq
      simp at h; subst h
      simp [escL, hp, escL_snoc hq ha]
    · cases h
theorem escL_none : ∀ {l r : List UInt8} {c : UInt8}, escC c = none → escL (l ++ c :: r) = none
  | [], r, c, h => by simp [escL, h]
  | x :: l, r, c, h => by simp only [List.cons_append, escL, escL_none h]; split <;> first | rfl | (rename_i h1 h2; cases h2)
theorem escC_len {c : UInt8} {a : List UInt8} (h : escC c = some a) : 1 ≤ a.length ∧ a.length ≤ 2 := by
  unfold escC at h
  split at h
  · simp at h; subst h; simp
  · split at h
    · simp at h; subst h; simp
    · split at h
      · cases h
      · split at h <;> (simp at h; subst h; simp)
theorem escL_len : ∀ {l e : List UInt8}, escL l = some e → e.length ≤ 2 * l.length
  | [], e, h => by simp [escL] at h; subst h; simp
  | x :: l, e, h => by
    simp only [escL] at h
    split at h
    · rename_i p q hp hq
      simp at h; subst h
      have := (escC_len hp).2
      have := escL_len hq
      simp; omega
    · cases h
/-- What Quote yields. -/
def quoteV (l : List UInt8) : Value := match escL l with
  | some e => .tuple ⟨[.string ⟨⟨34 :: (e ++ [34])⟩⟩, .bool true]⟩
  | none => .tuple ⟨[.string ⟨⟨[]⟩⟩, .bool false]⟩
theorem take_succ' {l : List UInt8} {j : Nat} {c : UInt8} (h : l[j]? = some c) : l.take (j + 1) = l.take j ++ [c] := by
  rw [List.take_add_one, h]; rfl
theorem split_at {l : List UInt8} {j : Nat} {c : UInt8} (h : l[j]? = some c) : l = l.take j ++ c :: l.drop (j + 1) := by
  obtain ⟨hj, rfl⟩ := List.getElem?_eq_some_iff.1 h
  rw [← List.drop_eq_getElem_cons hj, List.take_append_drop]
theorem ba_get {s : ByteArray} {j : Nat} (h : j < s.size) : s[j]? = some s[j] ∧ s.data.toList[j]? = some s[j] := by
  refine ⟨getElem?_pos s j h, ?_⟩
  have hl : j < s.data.toList.length := by simpa using h
  rw [List.getElem?_eq_getElem hl]
  rfl
theorem ba_ext1 {s : ByteArray} {j : Nat} (h : j < s.size) : s.extract j (j + 1) = ⟨⟨[s[j]]⟩⟩ := by
  apply ByteArray.ext
  apply Array.ext'
  obtain ⟨_, h2⟩ := ba_get h
  simp only [ByteArray.data_extract, Array.toList_extract]
  rw [List.extract_eq_take_drop, show j + 1 - j = 1 from by omega]
  rw [split_at h2]
  simp only [List.drop_append, List.length_take]
  have hl : j < s.data.toList.length := by simpa using h
  rw [Nat.min_eq_left (by omega), Nat.sub_self]
  simp [List.drop_take]

theorem c_Quote {w0 : World} {m : Mem} {s : ByteArray} {Q : Value → Mem → Prop} (hl : s.size ≤ 1099511627776) (hq : ∀ m', Old m m' → Q (quoteV s.data.toList) m') :
    AbC Tryd.prog w0 23 [.string s] m Q := by
  refine AbC_fn ok23 (by simp) ?_
  simp -implicitDefEqProofs (disch := first | assumption | (simp only [wnA]; done) | (simp only [wnA]; omega) | omega | fail) [rc23, ro23, wkA, retV, stabOk, dC, ev, fillD, pickCells, putAt, bnd, slD, List.getElem?_cons_zero, List.getElem?_cons_succ, dR.eq_20, Mem.cell, Mem.row, wmA]
  refine c_WriteByte (b := 34) (Bld.new (Old.refl m)) (by simp) fun m1 h1 => ?_
  simp -implicitDefEqProofs (disch := first | assumption | (simp only [wnA]; done) | (simp only [wnA]; omega) | omega | fail) [wkA, retV, stabOk, dC, ev, fillD, pickCells, putAt, bnd, slD, List.getElem?_cons_zero, List.getElem?_cons_succ, dR.eq_20, Mem.cell, Mem.row, wmA]
  refine LoopW_of (fun k ts m' => ∃ j e, j + k = s.size ∧ ts 0 = .string s ∧ ts 9 = .int .i64 (s.size : Nat) ∧ ts 10 = .int .i64 (j : Nat) ∧ ts 4 = .pointer (some ⟨m.next, 0, none⟩) ∧ escL (s.data.toList.take j) = some e ∧ Bld m m' m.next (34 :: e)) s.size ?_ ?_
  · exact ⟨0, [], by omega, by simp [frA_at], by simp, by simp, by simp, by simp [escL], by simpa using h1⟩
  · rintro k ts m2 K ⟨j, e, hj, t0, t9, t10, t4, he, hb⟩ hK
    have hel := escL_len he
    have htl : (s.data.toList.take j).length ≤ j := by simp; omega
    simp -implicitDefEqProofs (disch := first | assumption | (simp only [wnA]; done) | (simp only [wnA]; omega) | omega | fail) [rc23_1, wkA, retV, stabOk, dC, ev, fillD, pickCells, putAt, bnd, slD, List.getElem?_cons_zero, List.getElem?_cons_succ, dR.eq_20, Mem.cell, Mem.row, wmA, t9, t10]
    by_cases hjl : j < s.size
    · obtain ⟨g1, g2⟩ := ba_get hjl
      have ge := ba_ext1 hjl
      have fin : ∀ (a : List UInt8) (ts' : Fr) (m' : Mem), escC s[j] = some a → Bld m m' m.next (34 :: e ++ a) → ts' 0 = ts 0 → ts' 9 = ts 9 → ts' 4 = ts 4 → ts' 10 = .int .i64 ((j + 1 : Nat) : Int) → K ts' m' := fun a ts' m' ha hb' r0 r9 r4 r10 =>
        hK (k - 1) ts' m' (by omega) ⟨j + 1, e ++ a, by omega, by rw [r0, t0], by rw [r9, t9], r10, by rw [r4, t4], by rw [take_succ' g2]; exact escL_snoc he ha, by simpa using hb'⟩
      have bad : escC s[j] = none → ∀ m', Old m m' → Q (.tuple ⟨[.string ⟨⟨[]⟩⟩, .bool false]⟩) m' := fun hn m' ho => by
        have := hq m' ho
        rw [split_at g2] at this
        simpa [quoteV, escL_none hn] using this
      simp -implicitDefEqProofs (disch := first | assumption | (simp only [wnA]; done) | (simp only [wnA]; omega) | omega | fail) [hjl, rc23_0, wkA, retV, stabOk, dC, ev, fillD, pickCells, putAt, bnd, slD, List.getElem?_cons_zero, List.getElem?_cons_succ, dR.eq_20, Mem.cell, Mem.row, wmA, t0, t10, g1]
      have cls : (s[j]).toNat = 13 ∨ (s[j]).toNat = 10 ∨ ((s[j]).toNat < 32 ∧ (s[j]).toNat ≠ 13 ∧ (s[j]).toNat ≠ 10) ∨ (s[j]).toNat = 34 ∨ (s[j]).toNat = 92 ∨ (32 ≤ (s[j]).toNat ∧ (s[j]).toNat ≤ 126 ∧ (s[j]).toNat ≠ 34 ∧ (s[j]).toNat ≠ 92) ∨ 126 < (s[j]).toNat := by omega
      rcases cls with h | h | h | h | h | h | h
      · simp -implicitDefEqProofs (disch := first | assumption | (simp only [wnA]; done) | (simp only [wnA]; omega) | omega | fail) [beqT, wkA, retV, stabOk, dC, ev, fillD, pickCells, putAt, bnd, slD, List.getElem?_cons_zero, List.getElem?_cons_succ, dR.eq_20, Mem.cell, Mem.row, wmA, t4]
        refine c_WriteString hb (by show (34 :: e).length + 2 ≤ _; simp; omega) fun m3 h3 => ?_
        simp -implicitDefEqProofs (disch := first | assumption | (simp only [wnA]; done) | (simp only [wnA]; omega) | omega | fail) [wkA, retV, stabOk, dC, ev, fillD, pickCells, putAt, bnd, slD, List.getElem?_cons_zero, List.getElem?_cons_succ, dR.eq_20, Mem.cell, Mem.row, wmA, t10, w64]
        exact fin [92, 114] _ _ (by simp [escC, h]) (by simpa using h3) (by simp) (by simp) (by simp) (by simp)
      · simp -implicitDefEqProofs (disch := first | assumption | (simp only [wnA]; done) | (simp only [wnA]; omega) | omega | fail) [beqT, beqF, wkA, retV, stabOk, dC, ev, fillD, pickCells, putAt, bnd, slD, List.getElem?_cons_zero, List.getElem?_cons_succ, dR.eq_20, Mem.cell, Mem.row, wmA, t4]
        refine c_WriteString hb (by show (34 :: e).length + 2 ≤ _; simp; omega) fun m3 h3 => ?_
        simp -implicitDefEqProofs (disch := first | assumption | (simp only [wnA]; done) | (simp only [wnA]; omega) | omega | fail) [wkA, retV, stabOk, dC, ev, fillD, pickCells, putAt, bnd, slD, List.getElem?_cons_zero, List.getElem?_cons_succ, dR.eq_20, Mem.cell, Mem.row, wmA, t10, w64]
        exact fin [92, 110] _ _ (by simp [escC, h]) (by simpa using h3) (by simp) (by simp) (by simp) (by simp)
      · simp -implicitDefEqProofs (disch := first | assumption | (simp only [wnA]; done) | (simp only [wnA]; omega) | omega | fail) [beqT, beqF, ltT, ltF, gtT, gtF, wkA, retV, stabOk, dC, ev, fillD, pickCells, putAt, bnd, slD, List.getElem?_cons_zero, List.getElem?_cons_succ, dR.eq_20, Mem.cell, Mem.row, wmA, t4]
        exact bad (by simp [escC, h]) _ hb.1
      all_goals first
        | (have hcat : (⟨#[92]⟩ : ByteArray) ++ ⟨⟨[s[j]]⟩⟩ = ⟨⟨[92, s[j]]⟩⟩ := bApp_eq [92] [s[j]]
           have hb1 : (0 : Int) ≤ (j : Int) + 1 ∧ (j : Int) + 1 ≤ s.size := by omega
           have hb2 : (j : Int) ≤ (j : Int) + 1 := by omega
           have hb3 : ((j : Int) + 1).toNat = j + 1 := by omega
           simp -implicitDefEqProofs (disch := first | assumption | (simp only [wnA]; done) | (simp only [wnA]; omega) | omega | fail) [beqT, beqF, ltT, ltF, gtT, gtF, wkA, retV, stabOk, dC, ev, fillD, pickCells, putAt, bnd, slD, List.getElem?_cons_zero, List.getElem?_cons_succ, dR.eq_20, Mem.cell, Mem.row, wmA, t0, t4, t10, w64, hb1, hb2, hb3, ge]
           rw [dBin_sadd (by show 1 + 1 ≤ _; omega), hcat]
           simp -implicitDefEqProofs (disch := first | assumption | (simp only [wnA]; done) | (simp only [wnA]; omega) | omega | fail) [wkA, retV, stabOk, dC, ev, fillD, pickCells, putAt, bnd, slD, List.getElem?_cons_zero, List.getElem?_cons_succ, dR.eq_20, Mem.cell, Mem.row, wmA, t4]
           refine c_WriteString hb (by show (34 :: e).length + 2 ≤ _; simp; omega) fun m3 h3 => ?_
           simp -implicitDefEqProofs (disch := first | assumption | (simp only [wnA]; done) | (simp only [wnA]; omega) | omega | fail) [wkA, retV, stabOk, dC, ev, fillD, pickCells, putAt, bnd, slD, List.getElem?_cons_zero, List.getElem?_cons_succ, dR.eq_20, Mem.cell, Mem.row, wmA, t10, w64]
           exact fin [92, s[j]] _ _ (by simp [escC, h]) (by simpa using h3) (by simp) (by simp) (by simp) (by simp))
        | (simp -implicitDefEqProofs (disch := first | assumption | (simp only [wnA]; done) | (simp only [wnA]; omega) | omega | fail) [beqT, beqF, ltT, ltF, gtT, gtF, wkA, retV, stabOk, dC, ev, fillD, pickCells, putAt, bnd, slD, List.getElem?_cons_zero, List.getElem?_cons_succ, dR.eq_20, Mem.cell, Mem.row, wmA, t4]
           exact bad (by unfold escC; rw [if_neg (by omega), if_neg (by omega), if_pos (by omega)]) _ hb.1)
        | (simp -implicitDefEqProofs (disch := first | assumption | (simp only [wnA]; done) | (simp only [wnA]; omega) | omega | fail) [beqT, beqF, ltT, ltF, gtT, gtF, wkA, retV, stabOk, dC, ev, fillD, pickCells, putAt, bnd, slD, List.getElem?_cons_zero, List.getElem?_cons_succ, dR.eq_20, Mem.cell, Mem.row, wmA, t4]
           refine c_WriteByte hb (by simp; omega) fun m3 h3 => ?_
           simp -implicitDefEqProofs (disch := first | assumption | (simp only [wnA]; done) | (simp only [wnA]; omega) | omega | fail) [wkA, retV, stabOk, dC, ev, fillD, pickCells, putAt, bnd, slD, List.getElem?_cons_zero, List.getElem?_cons_succ, dR.eq_20, Mem.cell, Mem.row, wmA, t10, w64]
           exact fin [s[j]] _ _ (by unfold escC; rw [if_neg (by omega), if_neg (by omega), if_neg (by omega), if_neg (by omega)]) (by simpa using h3) (by simp) (by simp) (by simp) (by simp))
    · have hjj : j = s.size := by omega
      subst hjj
      simp -implicitDefEqProofs (disch := first | assumption | (simp only [wnA]; done) | (simp only [wnA]; omega) | omega | fail) [hjl, rc23_2, wkA, retV, stabOk, dC, ev, fillD, pickCells, putAt, bnd, slD, List.getElem?_cons_zero, List.getElem?_cons_succ, dR.eq_20, Mem.cell, Mem.row, wmA, t4]
      have hfull : s.data.toList.take s.size = s.data.toList := List.take_of_length_le (by simp)
      rw [hfull] at he
      refine c_BString hb (by simp; omega) fun m3 h3 => ?_
      have hcat : (⟨⟨34 :: e⟩⟩ : ByteArray) ++ ⟨#[34]⟩ = ⟨⟨34 :: (e ++ [34])⟩⟩ := by
        have := bApp_eq (34 :: e) [34]
        simpa using this
      simp -implicitDefEqProofs (disch := first | assumption | (simp only [wnA]; done) | (simp only [wnA]; omega) | omega | fail) [wkA, retV, stabOk, dC, ev, fillD, pickCells, putAt, bnd, slD, List.getElem?_cons_zero, List.getElem?_cons_succ, dR.eq_20, Mem.cell, Mem.row, wmA]
      rw [dBin_sadd (by show (34 :: e).length + 1 ≤ _; simp; omega), hcat]
      simp -implicitDefEqProofs (disch := first | assumption | (simp only [wnA]; done) | (simp only [wnA]; omega) | omega | fail) [wkA, retV, stabOk, dC, ev, fillD, pickCells, putAt, bnd, slD, List.getElem?_cons_zero, List.getElem?_cons_succ, dR.eq_20, Mem.cell, Mem.row, wmA]
      have := hq m3 h3
      simpa [quoteV, he] using this
end Go.Proofs.YtgfkjldohilmkaaDoor.Ab

set_option linter.unusedVariables false
set_option linter.unusedSimpArgs false
namespace Go.Proofs.YtgfkjldohilmkaaDoor.Ab
open Go Go.RowKit
set_option maxHeartbeats 4000000
set_option maxRecDepth 100000

def roomOf (s w : Int) : Int := if w = 3 ∨ s < 0 ∨ 8192 < s then (if s < 0 then 0 else if 8192 < s then 8192 else s) else (s + 127) / 128 * 128

theorem c_Room {w0 : World} {m : Mem} {nm : ByteArray} {a s p w : Int} {Q : Value → Mem → Prop} (hq : ∀ m', Old m m' → Q (.int .i64 (roomOf s w)) m') :
    AbC Tryd.prog w0 16 [.agg ⟨[.string nm, .int .i64 a, .int .i64 s, .int .u32 p, .int .i64 w]⟩] m Q := by
  refine AbC_fn ok16 (by simp) ?_
  have ho : Old m (m.push (.own [.string nm, .int .i64 a, .int .i64 s, .int .u32 p, .int .i64 w] 36)) := (Old.refl m).push _
  have hq' := hq _ ho
  have cls : w = 3 ∨ (w ≠ 3 ∧ s < 0) ∨ (w ≠ 3 ∧ 0 ≤ s ∧ 8192 < s) ∨ (w ≠ 3 ∧ 0 ≤ s ∧ s ≤ 8192) := by omega
  rcases cls with rfl | ⟨h1, h2⟩ | ⟨h1, h2, h3⟩ | ⟨h1, h2, h3⟩
  · have e : roomOf s 3 = (if (if 8192 < s then 8192 else s) > 0 then (if 8192 < s then 8192 else s) else 0) := by
      simp only [roomOf, true_or, if_true]
      split <;> split <;> split <;> omega
    rw [e] at hq'
    simp -implicitDefEqProofs (disch := first | assumption | (simp only [wnA]; done) | (simp only [wnA]; omega) | omega | fail) [rc16, ro16, wkA, retV, stabOk, dC, ev, fillD, pickCells, putAt, bnd, slD, List.getElem?_cons_zero, List.getElem?_cons_succ, dR.eq_20, Mem.cell, Mem.row, wmA]
    simpa using hq'
  · have e : roomOf s w = 0 := by simp [roomOf, h1, h2]
    rw [e] at hq'
    have n1 : ¬ (8192 < s) := by omega
    have n2 : ¬ (0 < s) := by omega
    simp -implicitDefEqProofs (disch := first | assumption | (simp only [wnA]; done) | (simp only [wnA]; omega) | omega | fail) [rc16, ro16, wkA, retV, stabOk, dC, ev, fillD, pickCells, putAt, bnd, slD, List.getElem?_cons_zero, List.getElem?_cons_succ, dR.eq_20, Mem.cell, Mem.row, wmA, beqF h1, ltT h2, n1, n2]
    exact hq'
  · have e : roomOf s w = 8192 := by simp only [roomOf]; rw [if_pos (by omega), if_neg (by omega), if_pos h3]
    rw [e] at hq'
    simp -implicitDefEqProofs (disch := first | assumption | (simp only [wnA]; done) | (simp only [wnA]; omega) | omega | fail) [rc16, ro16, wkA, retV, stabOk, dC, ev, fillD, pickCells, putAt, bnd, slD, List.getElem?_cons_zero, List.getElem?_cons_succ, dR.eq_20, Mem.cell, Mem.row, wmA, beqF h1, ltF h2, gtT h3, h3]
    exact hq'
  · have e : roomOf s w = (s + 127) / 128 * 128 := by simp only [roomOf]; rw [if_neg (by omega)]
    rw [e] at hq'
    have e2 : (s + 128 - 1).tdiv 128 = (s + 127) / 128 := by rw [Int.tdiv_eq_ediv_of_nonneg (by omega)]; congr 1; omega
    simp -implicitDefEqProofs (disch := first | assumption | (simp only [wnA]; done) | (simp only [wnA]; omega) | omega | fail) [rc16, rc16_0, ro16, wkA, retV, stabOk, dC, ev, fillD, pickCells, putAt, bnd, slD, List.getElem?_cons_zero, List.getElem?_cons_succ, dR.eq_20, Mem.cell, Mem.row, wmA, beqF h1, ltF h2, gtF h3, w64, dBin_quo, e2]
    exact hq'

theorem c_room {w0 : World} {m : Mem} {nm : ByteArray} {a s p w : Int} {Q : Value → Mem → Prop} (hq : ∀ m', Old m m' → Q (.int .i64 (roomOf s w)) m') :
    AbC Tryd.prog w0 17 [.agg ⟨[.string nm, .int .i64 a, .int .i64 s, .int .u32 p, .int .i64 w]⟩] m Q := by
  refine AbC_fn ok17 (by simp) ?_
  have ho : Old m (m.push (.own [.string nm, .int .i64 a, .int .i64 s, .int .u32 p, .int .i64 w] 36)) := (Old.refl m).push _
  have hq' := hq _ ho
  have cls : w = 3 ∨ (w ≠ 3 ∧ s < 0) ∨ (w ≠ 3 ∧ 0 ≤ s ∧ 8192 < s) ∨ (w ≠ 3 ∧ 0 ≤ s ∧ s ≤ 8192) := by omega
  rcases cls with rfl | ⟨h1, h2⟩ | ⟨h1, h2, h3⟩ | ⟨h1, h2, h3⟩
  · have e : roomOf s 3 = (if (if s < 8192 then s else 8192) > 0 then (if s < 8192 then s else 8192) else 0) := by
      simp only [roomOf, true_or, if_true]
      split <;> split <;> split <;> omega
    rw [e] at hq'
    simp -implicitDefEqProofs (disch := first | assumption | (simp only [wnA]; done) | (simp only [wnA]; omega) | omega | fail) [rc17, ro17, wkA, retV, stabOk, dC, ev, fillD, pickCells, putAt, bnd, slD, List.getElem?_cons_zero, List.getElem?_cons_succ, dR.eq_20, Mem.cell, Mem.row, wmA]
    simpa using hq'
  · have e : roomOf s w = 0 := by simp [roomOf, h1, h2]
    rw [e] at hq'
    have n1 : s < 8192 := by omega
    have n2 : ¬ (0 < s) := by omega
    have n3 : (0 : Int) ≠ s := by omega
    simp -implicitDefEqProofs (disch := first | assumption | (simp only [wnA]; done) | (simp only [wnA]; omega) | omega | fail) [rc17, ro17, wkA, retV, stabOk, dC, ev, fillD, pickCells, putAt, bnd, slD, List.getElem?_cons_zero, List.getElem?_cons_succ, dR.eq_20, Mem.cell, Mem.row, wmA, beqF h1, n1, n2, bneT n3]
    exact hq'
  · have e : roomOf s w = 8192 := by simp only [roomOf]; rw [if_pos (by omega), if_neg (by omega), if_pos h3]
    rw [e] at hq'
    have n1 : ¬ (s < 8192) := by omega
    have n3 : (8192 : Int) ≠ s := by omega
    simp -implicitDefEqProofs (disch := first | assumption | (simp only [wnA]; done) | (simp only [wnA]; omega) | omega | fail) [rc17, ro17, wkA, retV, stabOk, dC, ev, fillD, pickCells, putAt, bnd, slD, List.getElem?_cons_zero, List.getElem?_cons_succ, dR.eq_20, Mem.cell, Mem.row, wmA, beqF h1, n1, bneT n3]
    exact hq'
  · have e : roomOf s w = (s + 127) / 128 * 128 := by simp only [roomOf]; rw [if_neg (by omega)]
    rw [e] at hq'
    have n1 : (if s < 8192 then s else 8192) = s := by split <;> omega
    have n2 : (if 0 < s then s else 0) = s := by split <;> omega
    have n3 : s = s := rfl
    simp -implicitDefEqProofs (disch := first | assumption | (simp only [wnA]; done) | (simp only [wnA]; omega) | omega | fail) [rc17, ro17, wkA, retV, stabOk, dC, ev, fillD, pickCells, putAt, bnd, slD, List.getElem?_cons_zero, List.getElem?_cons_succ, dR.eq_20, Mem.cell, Mem.row, wmA, beqF h1, n1, n2, bneF n3]
    refine LoopW_of (fun k ts m' => ∃ n : Int, s ≤ n ∧ n ≤ (s + 127) / 128 * 128 ∧ ((s + 127) / 128 * 128 - n).toNat = k ∧ m' = m.push (.own [.string nm, .int .i64 a, .int .i64 s, .int .u32 p, .int .i64 w] 36) ∧ ts 3 = .int .i64 n) ((s + 127) / 128 * 128 - s).toNat ?_ ?_
    · exact ⟨s, by omega, by omega, rfl, rfl, by simp⟩
    · rintro k ts m1 K ⟨n, l1, l2, l3, rfl, t3⟩ hK
      by_cases hr : n.tmod 128 = 0
      · have : n = (s + 127) / 128 * 128 := by rw [Int.tmod_eq_emod_of_nonneg (by omega)] at hr; omega
        subst this
        simp -implicitDefEqProofs (disch := first | assumption | (simp only [wnA]; done) | (simp only [wnA]; omega) | omega | fail) [rc17_1, rc17_2, wkA, retV, stabOk, dC, ev, fillD, pickCells, putAt, bnd, slD, List.getElem?_cons_zero, List.getElem?_cons_succ, dR.eq_20, Mem.cell, Mem.row, wmA, t3, dBin_rem, bneF hr]
        exact hq'
      · have h0 : n % 128 ≠ 0 := by rw [Int.tmod_eq_emod_of_nonneg (by omega)] at hr; exact hr
        simp -implicitDefEqProofs (disch := first | assumption | (simp only [wnA]; done) | (simp only [wnA]; omega) | omega | fail) [rc17_1, rc17_0, wkA, retV, stabOk, dC, ev, fillD, pickCells, putAt, bnd, slD, List.getElem?_cons_zero, List.getElem?_cons_succ, dR.eq_20, Mem.cell, Mem.row, wmA, t3, dBin_rem, bneT hr, w64]
        exact hK (k - 1) _ _ (by omega) ⟨n + 1, by omega, by omega, by omega, rfl, by simp⟩

theorem roomOf_ge (s w : Int) : (if s < 8192 then s else 8192) ≤ roomOf s w := by
  unfold roomOf; split <;> split <;> (try split) <;> omega

theorem l_Room {w0 : World} {m : Mem} {nm : ByteArray} {a s p w z : Int} (hp : Part L0 m) (hz : 0 ≤ z ∧ z ≤ 65535) :
    AbC Tryd.prog w0 6 [.agg ⟨[.string nm, .int .i64 a, .int .i64 s, .int .u32 p, .int .i64 w]⟩, .int .u16 z] m fun v _ => v = .bool true := by
  refine AbC_fn ok6 (by simp) ?_
  simp -implicitDefEqProofs (disch := first | assumption | (simp only [wnA]; done) | (simp only [wnA]; omega) | omega | fail) [rc6, ro6, wkA, retV, stabOk, dC, ev, fillD, pickCells, putAt, bnd, slD, List.getElem?_cons_zero, List.getElem?_cons_succ, dR.eq_20, Mem.cell, Mem.row, wmA]
  have ho : Old m (m.push (.own [.string nm, .int .i64 a, .int .i64 s, .int .u32 p, .int .i64 w] 36)) := (Old.refl m).push _
  refine c_awake (ho.part hp) ?_
  have hr : (9000 : Int) ≠ 0 := by omega
  simp -implicitDefEqProofs (disch := first | assumption | (simp only [wnA]; done) | (simp only [wnA]; omega) | omega | fail) [rc6_0, wkA, retV, stabOk, dC, ev, fillD, pickCells, putAt, bnd, slD, List.getElem?_cons_zero, List.getElem?_cons_succ, dR.eq_20, Mem.cell, Mem.row, wmA, w64, dBin_rem]
  have hq0 : 0 ≤ z.tmod 9000 := by rw [Int.tmod_eq_emod_of_nonneg (by omega)]; omega
  generalize z.tmod 9000 = q at *
  refine SK_st (i := m.next + 1) (o := 0) (by simp [wkA, retV, stabOk, dC, ev, fillD, pickCells, putAt, bnd, slD, List.getElem?_cons_zero, List.getElem?_cons_succ, dR.eq_20]) (e := 36) (by simp -implicitDefEqProofs (disch := first | assumption | (simp only [wnA]; done) | (simp only [wnA]; omega) | omega | fail) [Mem.cell, Mem.row, wmA]; rfl) (by simp) (by simp [wkA, retV, stabOk, dC, ev, fillD, pickCells, putAt, bnd, slD, List.getElem?_cons_zero, List.getElem?_cons_succ, dR.eq_20]) (by simp [wkA, retV, stabOk, dC, ev, fillD, pickCells, putAt, bnd, slD, List.getElem?_cons_zero, List.getElem?_cons_succ, dR.eq_20, oneC]) ?_
  simp -implicitDefEqProofs (disch := first | assumption | (simp only [wnA]; done) | (simp only [wnA]; omega) | omega | fail) [wkA, retV, stabOk, dC, ev, fillD, pickCells, putAt, bnd, slD, List.getElem?_cons_zero, List.getElem?_cons_succ, dR.eq_20, Mem.cell, Mem.row, wmA]
  refine c_Room fun m1 h1 => ?_
  have g0 : m1.get m.next = .own [.string nm, .int .i64 a, .int .i64 s, .int .u32 p, .int .i64 w] 36 := by
    rw [h1.2 _ (by simp only [Mem.set_nxt, Mem.push_nxt]; omega)]; simp -implicitDefEqProofs (disch := first | assumption | (simp only [wnA]; done) | (simp only [wnA]; omega) | omega | fail) [Mem.cell, Mem.row, wmA]
  have g1 : m1.get (m.next + 1) = .own [.string ⟨#[]⟩, .int .i64 0, .int .i64 q, .int .u32 0, .int .i64 w] 36 := by
    rw [h1.2 _ (by simp only [Mem.set_nxt, Mem.push_nxt]; omega)]; simp -implicitDefEqProofs (disch := first | assumption | (simp only [wnA]; done) | (simp only [wnA]; omega) | omega | fail) [Mem.cell, Mem.row, wmA]
  have n1 : m.next + 2 ≤ m1.next := by have := h1.1; simpa using this
  clear h1
  simp -implicitDefEqProofs (disch := first | assumption | (simp only [wnA]; done) | (simp only [wnA]; omega) | omega | fail) [wkA, retV, stabOk, dC, ev, fillD, pickCells, putAt, bnd, slD, List.getElem?_cons_zero, List.getElem?_cons_succ, dR.eq_20, Mem.cell, Mem.row, wmA, g0, g1]
  refine c_room fun m2 h2 => ?_
  have g2 : m2.get (m.next + 1) = .own [.string ⟨#[]⟩, .int .i64 0, .int .i64 q, .int .u32 0, .int .i64 w] 36 := by
    rw [h2.2 _ (by omega)]; exact g1
  have n2 := h2.1
  clear h2 g0 g1
  simp -implicitDefEqProofs (disch := first | assumption | (simp only [wnA]; done) | (simp only [wnA]; omega) | omega | fail) [wkA, retV, stabOk, dC, ev, fillD, pickCells, putAt, bnd, slD, List.getElem?_cons_zero, List.getElem?_cons_succ, dR.eq_20, Mem.cell, Mem.row, wmA, g2]
  refine c_Room fun m3 h3 => ?_
  have g3 : m3.get (m.next + 1) = .own [.string ⟨#[]⟩, .int .i64 0, .int .i64 q, .int .u32 0, .int .i64 w] 36 := by
    rw [h3.2 _ (by omega)]; exact g2
  have n3 := h3.1
  clear h3 g2
  simp -implicitDefEqProofs (disch := first | assumption | (simp only [wnA]; done) | (simp only [wnA]; omega) | omega | fail) [wkA, retV, stabOk, dC, ev, fillD, pickCells, putAt, bnd, slD, List.getElem?_cons_zero, List.getElem?_cons_succ, dR.eq_20, Mem.cell, Mem.row, wmA, g3]
  refine c_room fun m4 h4 => ?_
  have g4 : m4.get (m.next + 1) = .own [.string ⟨#[]⟩, .int .i64 0, .int .i64 q, .int .u32 0, .int .i64 w] 36 := by
    rw [h4.2 _ (by omega)]; exact g3
  have n4 := h4.1
  clear h4 g3
  simp -implicitDefEqProofs (disch := first | assumption | (simp only [wnA]; done) | (simp only [wnA]; omega) | omega | fail) [wkA, retV, stabOk, dC, ev, fillD, pickCells, putAt, bnd, slD, List.getElem?_cons_zero, List.getElem?_cons_succ, dR.eq_20, Mem.cell, Mem.row, wmA, g4]
  refine c_Room fun m5 h5 => ?_
  have g5 : m5.get (m.next + 1) = .own [.string ⟨#[]⟩, .int .i64 0, .int .i64 q, .int .u32 0, .int .i64 w] 36 := by
    rw [h5.2 _ (by omega)]; exact g4
  have := roomOf_ge q w
  have hge : (if 8192 < q then 8192 else q) ≤ roomOf q w := by split at this <;> split <;> omega
  simp -implicitDefEqProofs (disch := first | assumption | (simp only [wnA]; done) | (simp only [wnA]; omega) | omega | fail) [wkA, retV, stabOk, dC, ev, fillD, pickCells, putAt, bnd, slD, List.getElem?_cons_zero, List.getElem?_cons_succ, dR.eq_20, Mem.cell, Mem.row, wmA, g5, geT hge]

def entryShp : Shp := .recd [.str, .int .i64, .int .i64, .int .u32, .int .i64]
theorem absT_entry {m : Mem} {td : TD} {cs : List Value} (h : AbsT m td cs) (hf : Fits entryShp td) : ∃ nm a s p w, cs = [.string nm, .int .i64 a, .int .i64 s, .int .u32 p, .int .i64 w] ∧ nm.size ≤ maxLen ∧
    (Lit.int .i64 a).wf = true ∧ (Lit.int .i64 s).wf = true ∧ (Lit.int .u32 p).wf = true ∧ (Lit.int .i64 w).wf = true ∧ td = .recd [.str nm, .int .i64 a, .int .i64 s, .int .u32 p, .int .i64 w] := by
  obtain ⟨l0, rfl, k, f⟩ := absT_recd h hf
  obtain ⟨d1, r1, c1, e1, rfl, rfl, h1, g1, k, f⟩ := absTs_cons k f
  obtain ⟨d2, r2, c2, e2, rfl, rfl, h2, g2, k, f⟩ := absTs_cons k f
  obtain ⟨d3, r3, c3, e3, rfl, rfl, h3, g3, k, f⟩ := absTs_cons k f
  obtain ⟨d4, r4, c4, e4, rfl, rfl, h4, g4, k, f⟩ := absTs_cons k f
  obtain ⟨d5, r5, c5, e5, rfl, rfl, h5, g5, k, f⟩ := absTs_cons k f
  obtain ⟨rfl, rfl⟩ := absTs_nil k f
  obtain ⟨nm, rfl, rfl, w1⟩ := absT_str h1 g1
  obtain ⟨a, rfl, rfl, w2⟩ := absT_int h2 g2
  obtain ⟨s, rfl, rfl, w3⟩ := absT_int h3 g3
  obtain ⟨p, rfl, rfl, w4⟩ := absT_int h4 g4
  obtain ⟨w, rfl, rfl, w5⟩ := absT_int h5 g5
  exact ⟨nm, a, s, p, w, rfl, w1, w2, w3, w4, w5, rfl⟩
theorem wf_u16m {n : Int} (h : (Lit.int .u16 n).wf = true) : 0 ≤ n ∧ n ≤ 65535 := by
  have : 0 ≤ n ∧ n ≤ 65535 := by simpa [Lit.wf, IntKind.min, IntKind.max, IntKind.signed, IntKind.bits] using h
  exact this
end Go.Proofs.YtgfkjldohilmkaaDoor.Ab

set_option linter.unusedVariables false
set_option linter.unusedSimpArgs false
namespace Go.Proofs.YtgfkjldohilmkaaDoor.Ab
open Go Go.RowKit
set_option maxHeartbeats 4000000
set_option maxRecDepth 100000

theorem cat2 {a b : List UInt8} (h : a.length + b.length ≤ 9223372036854775807) : dBin .add (.string ⟨⟨a⟩⟩) (.string ⟨⟨b⟩⟩) = some (.string ⟨⟨a ++ b⟩⟩) := by
  rw [dBin_sadd (by exact h), bApp_eq]
theorem Bld.keep {base m m' : Mem} {i : Nat} {bs : List UInt8} (h : Bld base m i bs) (o : Old m m') : Bld base m' i bs := by
  obtain ⟨h1, h2, h3, pa, ob, h4, h5, h6, hz, h7⟩ := h
  refine ⟨h1.trans o, h2, Nat.lt_of_lt_of_le h3 o.1, pa, ob, by rw [o.2 _ h3]; exact h4, h5, h6.keep o.1 fun b hb => o.2 b ?_, hz, h7⟩
  subst hb
  exact h6.lt

/-! The document's digits. -/
theorem hex_sub : ∀ k : Fin 16, (ByteArray.mk #[48, 49, 50, 51, 52, 53, 54, 55, 56, 57, 97, 98, 99, 100, 101, 102]).extract k.val (k.val + 1) = ⟨⟨[digC k.val]⟩⟩ := by decide +kernel
theorem numS_nat (B n : Nat) : numS B (n : Int) = digs B n := by
  unfold numS sgn
  rw [if_neg (by simp)]
  simp
theorem c_digN {w0 : World} {m : Mem} {B : Nat} (hB : B = 10 ∨ B = 16) : ∀ (n : Nat), n ≤ 9223372036854775807 → ∀ {Q : Value → Mem → Prop}, Q (.string ⟨⟨digs B n⟩⟩) m → AbC Tryd.prog w0 31 [.int .i64 (n : Int), .int .i64 (B : Int)] m Q := by
  intro n
  induction n using Nat.strongRecOn with
  | _ n ih =>
    intro hn Q hq
    refine AbC_fn ok31 (by simp) ?_
    have f0 : (0 : Int) ≤ (n : Int) := by omega
    simp -implicitDefEqProofs (disch := first | assumption | (simp only [wnA]; done) | (simp only [wnA]; omega) | omega | fail) [rc31, ro31, wkA, retV, stabOk, dC, ev, fillD, pickCells, putAt, bnd, slD, List.getElem?_cons_zero, List.getElem?_cons_succ, dR_sl, Mem.cell, Mem.row, wmA, ltF f0, rc31_1]
    by_cases hb : n < B
    · have hb' : (n : Int) < (B : Int) := by omega
      have h16 : n < 16 := by omega
      have hs := hex_sub ⟨n, h16⟩
      simp only at hs
      have hw : IntKind.i64.wrap ((n : Int) + 1) = ((n + 1 : Nat) : Int) := by rw [w64 (by omega)]; omega
      have hsz : (ByteArray.mk #[48, 49, 50, 51, 52, 53, 54, 55, 56, 57, 97, 98, 99, 100, 101, 102]).size = 16 := rfl
      have p1 : (0 : Int) ≤ (n : Int) + 1 ∧ (n : Int) + 1 ≤ 16 := by omega
      have p3 : (n : Int) ≤ (n : Int) + 1 := by omega
      rw [digs_lt hb] at hq
      generalize digC n = c at *
      simp -implicitDefEqProofs (disch := first | assumption | (simp only [wnA]; done) | (simp only [wnA]; omega) | omega | fail) [wkA, retV, stabOk, dC, ev, fillD, pickCells, putAt, bnd, slD, List.getElem?_cons_zero, List.getElem?_cons_succ, dR_sl, Mem.cell, Mem.row, wmA, ltT hb', hb, hw, hsz, p1, p3, hs]
      exact hq
    · have hb' : ¬ (n : Int) < (B : Int) := by omega
      have hB0 : (B : Int) ≠ 0 := by omega
      have hd : (n : Int).tdiv (B : Int) = ((n / B : Nat) : Int) := by rw [Int.tdiv_eq_ediv_of_nonneg (by omega)]; rfl
      have hm : (n : Int).tmod (B : Int) = ((n % B : Nat) : Int) := by rw [Int.tmod_eq_emod_of_nonneg (by omega)]; rfl
      have h1 : n / B < n := Nat.div_lt_self (by omega) (by omega)
      have h2 : n % B < B := Nat.mod_lt _ (by omega)
      have hDle : n / B ≤ n := Nat.div_le_self _ _
      have hwd : IntKind.i64.wrap ((n / B : Nat) : Int) = ((n / B : Nat) : Int) := by
        generalize n / B = D at hDle ⊢
        exact w64 (by omega)
      have l1 := digs_64 (b := B) (by omega) (show n / B < 18446744073709551616 by omega)
      have hdl : (digs B (n % B)).length = 1 := by rw [digs_lt h2]; rfl
      have hcat := cat2 (a := digs B (n / B)) (b := digs B (n % B)) (by omega)
      have q1 : dBin .quo (.int .i64 (n : Int)) (.int .i64 (B : Int)) = some (.int .i64 ((n / B : Nat) : Int)) := by rw [dBin_quo hB0, hd, hwd]
      have q2 : dBin .rem (.int .i64 (n : Int)) (.int .i64 (B : Int)) = some (.int .i64 ((n % B : Nat) : Int)) := by rw [dBin_rem hB0, hm]
      have hge : digs B n = digs B (n / B) ++ digs B (n % B) := by rw [digs_ge (by omega) (by omega), digs_lt h2]
      rw [hge] at hq
      generalize hD : n / B = D at *
      generalize hM : n % B = M at *
      simp -implicitDefEqProofs (disch := first | assumption | (simp only [wnA]; done) | (simp only [wnA]; omega) | omega | fail) [wkA, retV, stabOk, dC, ev, fillD, pickCells, putAt, bnd, slD, List.getElem?_cons_zero, List.getElem?_cons_succ, dR_sl, Mem.cell, Mem.row, wmA, hb, q1, q2, rc31_0]
      refine ih D h1 (by omega) ?_
      simp -implicitDefEqProofs (disch := first | assumption | (simp only [wnA]; done) | (simp only [wnA]; omega) | omega | fail) [wkA, retV, stabOk, dC, ev, fillD, pickCells, putAt, bnd, slD, List.getElem?_cons_zero, List.getElem?_cons_succ, dR_sl, Mem.cell, Mem.row, wmA]
      refine ih M (by omega) (by omega) ?_
      simp -implicitDefEqProofs (disch := first | assumption | (simp only [wnA]; done) | (simp only [wnA]; omega) | omega | fail) [wkA, retV, stabOk, dC, ev, fillD, pickCells, putAt, bnd, slD, List.getElem?_cons_zero, List.getElem?_cons_succ, dR_sl, Mem.cell, Mem.row, wmA, hcat]
      exact hq
theorem c_digits {w0 : World} {m : Mem} {B : Nat} (hB : B = 10 ∨ B = 16) {n : Int} (hn : -9223372036854775807 ≤ n ∧ n ≤ 9223372036854775807) {Q : Value → Mem → Prop} (hq : Q (.string ⟨⟨numS B n⟩⟩) m) : AbC Tryd.prog w0 31 [.int .i64 n, .int .i64 (B : Int)] m Q := by
  by_cases h : 0 ≤ n
  · obtain ⟨k, rfl⟩ : ∃ k : Nat, n = k := ⟨n.toNat, by omega⟩
    rw [numS_nat] at hq
    exact c_digN hB k (by omega) hq
  · obtain ⟨k, rfl⟩ : ∃ k : Nat, n = -(k : Int) := ⟨n.natAbs, by omega⟩
    refine AbC_fn ok31 (by simp) ?_
    have f0 : -(k : Int) < 0 := by omega
    have hw : IntKind.i64.wrap (0 - -(k : Int)) = (k : Int) := by rw [w64 (by omega)]; omega
    have hw' : IntKind.i64.wrap (k : Int) = (k : Int) := w64 (by omega)
    have hN : numS B (-(k : Int)) = 45 :: digs B k := by
      unfold numS sgn
      rw [if_pos (by simpa using f0)]
      simp
    rw [hN] at hq
    have l1 := digs_64 (b := B) (by omega) (show k < 18446744073709551616 by omega)
    have hcat := cat2 (a := [45]) (b := digs B k) (by simp; omega)
    have hk0 : 0 < k := by omega
    simp -implicitDefEqProofs (disch := first | assumption | (simp only [wnA]; done) | (simp only [wnA]; omega) | omega | fail) [rc31, ro31, wkA, retV, stabOk, dC, ev, fillD, pickCells, putAt, bnd, slD, List.getElem?_cons_zero, List.getElem?_cons_succ, dR_sl, Mem.cell, Mem.row, wmA, ltT f0, hk0, hw, hw']
    refine c_digN hB k (by omega) ?_
    simp -implicitDefEqProofs (disch := first | assumption | (simp only [wnA]; done) | (simp only [wnA]; omega) | omega | fail) [wkA, retV, stabOk, dC, ev, fillD, pickCells, putAt, bnd, slD, List.getElem?_cons_zero, List.getElem?_cons_succ, dR_sl, Mem.cell, Mem.row, wmA, hcat]
    exact hq

theorem c_FormatUint16 {w0 : World} {m : Mem} {u : Nat} {Q : Value → Mem → Prop} (hp : Part L0 m) (hu : u < 18446744073709551616) (hq : ∀ m', Old m m' → Q (.string ⟨⟨digs 16 u⟩⟩) m') : AbC Tryd.prog w0 27 [.int .u64 (u : Int), .int .i64 16] m Q := by
  refine AbC_fn ok27 (by simp) ?_
  simp -implicitDefEqProofs (disch := first | assumption | (simp only [wnA]; done) | (simp only [wnA]; omega) | omega | fail) [rc27, ro27, wkA, retV, stabOk, dC, ev, fillD, pickCells, putAt, bnd, slD, List.getElem?_cons_zero, List.getElem?_cons_succ, dR_sl, Mem.cell, Mem.row, wmA]
  refine AbC_fn ok39 (by simp) ?_
  simp -implicitDefEqProofs (disch := first | assumption | (simp only [wnA]; done) | (simp only [wnA]; omega) | omega | fail) [rc39, ro39, wkA, retV, stabOk, dC, ev, fillD, pickCells, putAt, bnd, slD, List.getElem?_cons_zero, List.getElem?_cons_succ, dR_sl, Mem.cell, Mem.row, wmA, rc39_1]
  refine c_fmtBits (B := 16) (k := 4) (a := u) (neg := false) hp rfl (by omega) (by omega) hu (by simp) pow16 tz16 fun m' ho => ?_
  simp -implicitDefEqProofs (disch := first | assumption | (simp only [wnA]; done) | (simp only [wnA]; omega) | omega | fail) [wkA, retV, stabOk, dC, ev, fillD, pickCells, putAt, bnd, slD, List.getElem?_cons_zero, List.getElem?_cons_succ, dR_sl, Mem.cell, Mem.row, wmA]
  exact hq m' ho

/-! An entry's line. -/
structure En where
  nm : ByteArray
  a : Int
  s : Int
  p : Int
  w : Int
def En.cells (e : En) : List Value := [.string e.nm, .int .i64 e.a, .int .i64 e.s, .int .u32 e.p, .int .i64 e.w]
theorem enl (e : En) : e.cells.length = 5 := rfl
def En.ok (e : En) : Prop := e.nm.size ≤ 1048576 ∧ (-9223372036854775808 ≤ e.a ∧ e.a ≤ 9223372036854775807) ∧ (-9223372036854775808 ≤ e.s ∧ e.s ≤ 9223372036854775807) ∧ (0 ≤ e.p ∧ e.p ≤ 4294967295) ∧ (-9223372036854775808 ≤ e.w ∧ e.w ≤ 9223372036854775807)
def wayL (w : Int) : List UInt8 := if w = 1 then [99, 114, 99] else if w = 2 then [108, 97, 114, 103, 101] else if w = 3 then [98, 97, 116, 99, 104] else [99, 104, 101, 99, 107]
theorem wayL_len (w : Int) : (wayL w).length ≤ 5 := by
  unfold wayL
  split
  · simp
  · split
    · simp
    · split <;> simp
/-- A name in quotes. -/
def qL (l : List UInt8) : List UInt8 := match escL l with
  | some e => 34 :: (e ++ [34])
  | none => []
theorem quoteV_eq (l : List UInt8) : quoteV l = .tuple ⟨[.string ⟨⟨qL l⟩⟩, .bool (escL l).isSome]⟩ := by
  unfold quoteV qL
  split <;> rename_i h <;> simp [h]
theorem qL_len (l : List UInt8) : (qL l).length ≤ 2 * l.length + 2 := by
  unfold qL
  split
  · rename_i e h; have := escL_len h; simp; omega
  · simp
def lineL (e : En) : List UInt8 := [105, 109, 97, 103, 101, 32] ++ qL e.nm.data.toList ++ [32, 97, 116, 32, 48, 120] ++ numS 16 e.a ++ [32, 115, 105, 122, 101, 32] ++ numS 10 e.s ++ [32, 112, 114, 105, 110, 116, 32, 48, 120] ++ digs 16 e.p.toNat ++ [32, 98, 121, 32] ++ wayL e.w ++ [59, 10]
theorem num_len {B : Nat} (hB : B = 10 ∨ B = 16) {i : Int} (hi : -9223372036854775808 ≤ i ∧ i ≤ 9223372036854775807) : (numS B i).length ≤ 23 := by
  have := digs_64 (b := B) (n := i.natAbs) (by omega) (by omega)
  unfold numS sgn
  split <;> simp <;> omega
theorem lineL_len {e : En} (h : e.ok) : (lineL e).length ≤ 2 * e.nm.size + 130 := by
  obtain ⟨h1, h2, h3, h4, h5⟩ := h
  have l1 := qL_len e.nm.data.toList
  have l2 := num_len (B := 16) (.inr rfl) h2
  have l3 := num_len (B := 10) (.inl rfl) h3
  have l4 := digs_64 (b := 16) (n := e.p.toNat) (by omega) (by omega)
  have l5 := wayL_len e.w
  have l6 : e.nm.data.toList.length = e.nm.size := by simp
  simp only [lineL, List.length_append, List.length_cons, List.length_nil]
  omega

theorem w_line {w0 : World} {Q : AQ} {ts : Fr} {base m : Mem} {i b : Nat} {bs : List UInt8} {e : En} (hp : Part L0 base) (ht : Ten w0) (he : e.ok) (hb : Bld base m i bs) (hbl : bs.length ≤ 1099511627776) (hg : m.get b = .own e.cells 36) (hbn : b < m.next)
    (t3 : ts 3 = .pointer (some ⟨i, 0, none⟩)) (t5 : ts 5 = .pointer (some ⟨b, 0, none⟩)) (t6 : ts 6 = .string ⟨⟨wayL e.w⟩⟩)
    (hq : ∀ ts' m', ts' 3 = ts 3 → ts' 9 = ts 9 → ts' 10 = ts 10 → ts' 11 = ts 11 → Bld base m' i (bs ++ lineL e) → Q .normal ts' m') : AbW Tryd.prog w0 rc11_0 Q ts m := by
  have hll := lineL_len he
  obtain ⟨h1, h2, h3, h4, h5⟩ := he
  have l1 := qL_len e.nm.data.toList
  have l2 := num_len (B := 16) (.inr rfl) h2
  have l3 := num_len (B := 10) (.inl rfl) h3
  have l4 := digs_64 (b := 16) (n := e.p.toNat) (by omega) (by omega)
  have l5 := wayL_len e.w
  have l6 : e.nm.data.toList.length = e.nm.size := by simp
  simp only [En.cells] at hg
  simp -implicitDefEqProofs (disch := first | assumption | (simp only [wnA]; done) | (simp only [wnA]; omega) | omega | fail) [rc11_0, wkA, retV, stabOk, dC, ev, fillD, pickCells, putAt, bnd, slD, List.getElem?_cons_zero, List.getElem?_cons_succ, dR_sl, Mem.cell, Mem.row, wmA, t5, hg]
  refine c_Quote (by omega) fun m1 o1 => ?_
  rw [quoteV_eq]
  have g1 := o1.2 b hbn ▸ hg
  have b1 := hb.keep o1
  have n1 := o1.1
  have hpe : ∃ u : Nat, e.p = u ∧ u ≤ 4294967295 := ⟨e.p.toNat, by omega, by omega⟩
  obtain ⟨u, hu, hu2⟩ := hpe
  have wu : IntKind.u64.wrap e.p = (u : Int) := by rw [hu]; exact IntWalk.u64_in _ (by omega)
  simp -implicitDefEqProofs (disch := first | assumption | (simp only [wnA]; done) | (simp only [wnA]; omega) | omega | (simp only [List.length_append, List.length_cons, List.length_nil]; omega) | fail) [wkA, retV, stabOk, dC, ev, fillD, pickCells, putAt, bnd, slD, List.getElem?_cons_zero, List.getElem?_cons_succ, dR_sl, Mem.cell, Mem.row, wmA, t5, t6, g1, cat2, wu]
  refine c_FormatInt (B := 16) (Old.part hp (hb.1.trans o1)) ht (.inr (.inr rfl)) h2 fun m2 o2 => ?_
  have g2 := o2.2 b (by omega) ▸ g1
  have b2 := b1.keep o2
  have n2 := o2.1
  simp -implicitDefEqProofs (disch := first | assumption | (simp only [wnA]; done) | (simp only [wnA]; omega) | omega | (simp only [List.length_append, List.length_cons, List.length_nil]; omega) | fail) [wkA, retV, stabOk, dC, ev, fillD, pickCells, putAt, bnd, slD, List.getElem?_cons_zero, List.getElem?_cons_succ, dR_sl, Mem.cell, Mem.row, wmA, t5, t6, g1, g2, cat2, wu]
  refine c_Itoa ht h3 ?_
  simp -implicitDefEqProofs (disch := first | assumption | (simp only [wnA]; done) | (simp only [wnA]; omega) | omega | (simp only [List.length_append, List.length_cons, List.length_nil]; omega) | fail) [wkA, retV, stabOk, dC, ev, fillD, pickCells, putAt, bnd, slD, List.getElem?_cons_zero, List.getElem?_cons_succ, dR_sl, Mem.cell, Mem.row, wmA, t5, t6, g1, g2, cat2, wu]
  refine c_FormatUint16 (Old.part hp ((hb.1.trans o1).trans o2)) (by omega) fun m3 o3 => ?_
  have b3 := b2.keep o3
  have hut : e.p.toNat = u := by omega
  rw [hut] at l4
  simp -implicitDefEqProofs (disch := first | assumption | (simp only [wnA]; done) | (simp only [wnA]; omega) | omega | (simp only [List.length_append, List.length_cons, List.length_nil]; omega) | fail) [wkA, retV, stabOk, dC, ev, fillD, pickCells, putAt, bnd, slD, List.getElem?_cons_zero, List.getElem?_cons_succ, dR_sl, Mem.cell, Mem.row, wmA, t3, t5, t6, g1, g2, cat2, wu]
  refine c_WriteString b3 ?_ fun m4 b4 => ?_
  · show _ + List.length _ ≤ _
    simp only [List.length_append, List.length_cons, List.length_nil]
    omega
  · simp -implicitDefEqProofs (disch := first | assumption | (simp only [wnA]; done) | (simp only [wnA]; omega) | omega | fail) [wkA, retV, stabOk, dC, ev, fillD, pickCells, putAt, bnd, slD, List.getElem?_cons_zero, List.getElem?_cons_succ, dR_sl, Mem.cell, Mem.row, wmA]
    refine hq _ m4 (by simp) (by simp) (by simp) (by simp) ?_
    have : lineL e = _ := rfl
    simpa [lineL, hut] using b4

theorem c_Ways {w0 : World} {m : Mem} {Q : Value → Mem → Prop} (hq : Q (.slice (some ⟨m.next, 0, none⟩) 4 1) (m.push (.own [.string ⟨⟨wayL 0⟩⟩, .string ⟨⟨wayL 1⟩⟩, .string ⟨⟨wayL 2⟩⟩, .string ⟨⟨wayL 3⟩⟩] 9))) : AbC Tryd.prog w0 15 [] m Q := by
  refine AbC_fn ok15 (by simp) ?_
  simp -implicitDefEqProofs (disch := first | assumption | (simp only [wnA]; done) | (simp only [wnA]; omega) | omega | fail) [rc15, ro15, wkA, retV, stabOk, dC, ev, fillD, pickCells, putAt, bnd, slD, List.getElem?_cons_zero, List.getElem?_cons_succ, dR_sl, Mem.cell, Mem.row, wmA]
  rw [SK_bsl (cs := [.string ⟨⟨wayL 0⟩⟩, .string ⟨⟨wayL 1⟩⟩, .string ⟨⟨wayL 2⟩⟩, .string ⟨⟨wayL 3⟩⟩]) (by simp [wkA, retV, stabOk, dC, ev, fillD, pickCells, putAt, bnd, slD, List.getElem?_cons_zero, List.getElem?_cons_succ, dR_sl, wayL]) (by simp)]
  simp -implicitDefEqProofs (disch := first | assumption | (simp only [wnA]; done) | (simp only [wnA]; omega) | omega | fail) [wkA, retV, stabOk, dC, ev, fillD, pickCells, putAt, bnd, slD, List.getElem?_cons_zero, List.getElem?_cons_succ, dR_sl, Mem.cell, Mem.row, wmA]
  exact hq

/-- How much entries tell. -/
def totE (es : List En) : Nat := (es.map fun e => 2 * e.nm.size + 130).sum
theorem totE_take (es : List En) (j : Nat) : totE (es.take j) ≤ totE es := by
  induction es generalizing j with
  | nil => simp [totE]
  | cons x xs ih =>
    cases j with
    | zero => simp [totE]
    | succ j => have := ih j; simp only [totE, List.take_succ_cons, List.map_cons, List.sum_cons] at this ⊢; omega
theorem lines_len {es : List En} (h : ∀ e ∈ es, e.ok) : (es.flatMap lineL).length ≤ totE es := by
  induction es with
  | nil => simp [totE]
  | cons x xs ih =>
    have h1 := lineL_len (h x (by simp))
    have h2 := ih fun e he => h e (by simp [he])
    simp only [List.flatMap_cons, List.length_append, totE, List.map_cons, List.sum_cons] at h2 ⊢
    omega

theorem c_MText {w0 : World} {m : Mem} {v : Value} {es : List En} {Q : Value → Mem → Prop} (hp : Part L0 m) (ht : Ten w0) (hv : SlR m 5 v (es.flatMap En.cells) es.length) (hvb : ∀ b, blk v = some b → b < m.next) (he : ∀ e ∈ es, e.ok) (hl : totE es ≤ 1099511627776) (hn : es.length ≤ 1048576)
    (hq : ∀ m', Old m m' → Q (.string ⟨⟨es.flatMap lineL⟩⟩) m') : AbC Tryd.prog w0 11 [v] m Q := by
  refine AbC_fn ok11 (by simp) ?_
  simp -implicitDefEqProofs (disch := first | assumption | (simp only [wnA]; done) | (simp only [wnA]; omega) | omega | fail) [rc11, ro11, wkA, retV, stabOk, dC, ev, fillD, pickCells, putAt, bnd, slD, List.getElem?_cons_zero, List.getElem?_cons_succ, dR_sl, Mem.cell, Mem.row, wmA, hv.slen]
  refine LoopW_of (fun k ts m' => ∃ j, j + k = es.length ∧ ts 3 = .pointer (some ⟨m.next, 0, none⟩) ∧ ts 9 = v ∧ ts 10 = .int .i64 (es.length : Nat) ∧ ts 11 = .int .i64 (j : Nat) ∧ Bld m m' m.next ((es.take j).flatMap lineL)) es.length ?_ ?_
  · exact ⟨0, by omega, by simp, by simp [frA_at], by simp, by simp, Bld.new (Old.refl m)⟩
  · rintro k ts m1 K ⟨j, hj, t3, t9, t10, t11, hb⟩ hK
    have hlen := lines_len (es := es.take j) fun e h => he e (List.mem_of_mem_take h)
    have htk := totE_take es j
    simp -implicitDefEqProofs (disch := first | assumption | (simp only [wnA]; done) | (simp only [wnA]; omega) | omega | fail) [rc11_2, wkA, retV, stabOk, dC, ev, fillD, pickCells, putAt, bnd, slD, List.getElem?_cons_zero, List.getElem?_cons_succ, dR_sl, Mem.cell, Mem.row, wmA, t10, t11]
    by_cases hjl : j < es.length
    · have hv1 : SlR m1 5 v (es.flatMap En.cells) es.length := hv.keep fun b h => hb.1.2 b (hvb b h)
      obtain ⟨bi, bo, L, hvv, hL, hLl, hLt, -⟩ := hv1.at hjl
      rw [flat_at enl es (List.getElem?_eq_getElem hjl)] at hLt
      obtain ⟨e, hx⟩ : ∃ e, es[j] = e := ⟨_, rfl⟩
      have heo : e.ok := he e (by rw [← hx]; exact List.getElem_mem hjl)
      have hnx : (es.take (j + 1)).flatMap lineL = (es.take j).flatMap lineL ++ lineL e := by
        rw [List.take_succ_eq_append_getElem hjl, List.flatMap_append, hx]; simp
      rw [hx] at hLt
      rw [hvv] at t9
      have hle : bo + j * 5 + 5 ≤ L.length := by omega
      have hjw : IntKind.i64.wrap ((j : Int) + 1) = ((j + 1 : Nat) : Int) := by rw [w64 (by omega)]; omega
      simp -implicitDefEqProofs (disch := first | assumption | (simp only [wnA]; done) | (simp only [wnA]; omega) | omega | fail) [hjl, rc11_1, wkA, retV, stabOk, dC, ev, fillD, pickCells, putAt, bnd, slD, List.getElem?_cons_zero, List.getElem?_cons_succ, dR_sl, Mem.cell, Mem.row, wmA, t3, t9, t10, t11, sidx_at, hL, hLt, hle]
      refine SK_st (i := m1.next) (o := 0) (by simp [wkA, retV, stabOk, dC, ev, fillD, pickCells, putAt, bnd, slD, List.getElem?_cons_zero, List.getElem?_cons_succ, dR_sl]) (e := 36) (by simp -implicitDefEqProofs (disch := first | assumption | (simp only [wnA]; done) | (simp only [wnA]; omega) | omega | fail) [Mem.cell, Mem.row, wmA]; rfl) (by simp) (by simp [wkA, retV, stabOk, dC, ev, fillD, pickCells, putAt, bnd, slD, List.getElem?_cons_zero, List.getElem?_cons_succ, dR_sl, En.cells]) (by simp [wkA, retV, stabOk, dC, ev, fillD, pickCells, putAt, bnd, slD, List.getElem?_cons_zero, List.getElem?_cons_succ, dR_sl, En.cells, oneC]) ?_
      simp -implicitDefEqProofs (disch := first | assumption | (simp only [wnA]; done) | (simp only [wnA]; omega) | omega | fail) [wkA, retV, stabOk, dC, ev, fillD, pickCells, putAt, bnd, slD, List.getElem?_cons_zero, List.getElem?_cons_succ, dR_sl, Mem.cell, Mem.row, wmA, En.cells]
      have ho : Old m1 ((m1.push (.own [.string ⟨#[]⟩, .int .i64 0, .int .i64 0, .int .u32 0, .int .i64 0] 36)).set m1.next (.own [.string e.nm, .int .i64 e.a, .int .i64 e.s, .int .u32 e.p, .int .i64 e.w] 36)) := ((Old.refl m1).push _).set (Nat.le_refl _) _
      have hg : ((m1.push (.own [.string ⟨#[]⟩, .int .i64 0, .int .i64 0, .int .u32 0, .int .i64 0] 36)).set m1.next (.own [.string e.nm, .int .i64 e.a, .int .i64 e.s, .int .u32 e.p, .int .i64 e.w] 36)).get m1.next = .own e.cells 36 := by simp [En.cells]
      have hbn : m1.next < ((m1.push (.own [.string ⟨#[]⟩, .int .i64 0, .int .i64 0, .int .u32 0, .int .i64 0] 36)).set m1.next (.own [.string e.nm, .int .i64 e.a, .int .i64 e.s, .int .u32 e.p, .int .i64 e.w] 36)).next := by simp
      generalize (m1.push (.own [.string ⟨#[]⟩, .int .i64 0, .int .i64 0, .int .u32 0, .int .i64 0] 36)).set m1.next (.own [.string e.nm, .int .i64 e.a, .int .i64 e.s, .int .u32 e.p, .int .i64 e.w] 36) = M at *
      have hbM := hb.keep ho
      have hgM := hg
      simp only [En.cells] at hgM
      have wy : ∀ k, e.w = k → (k = 0 ∨ k = 1 ∨ k = 2 ∨ k = 3) → sidx 1 (.slice (some ⟨M.next, 0, none⟩) 4 1) (.int .i64 e.w) = some (.pointer (some ⟨M.next, k.toNat, none⟩)) := by
        rintro k rfl (h | h | h | h) <;> rw [h] <;> rfl
      by_cases hw : 0 ≤ e.w ∧ e.w ≤ 3
      · simp -implicitDefEqProofs (disch := first | assumption | (simp only [wnA]; done) | (simp only [wnA]; omega) | omega | fail) [wkA, retV, stabOk, dC, ev, fillD, pickCells, putAt, bnd, slD, List.getElem?_cons_zero, List.getElem?_cons_succ, dR_sl, Mem.cell, Mem.row, wmA, hgM, hw]
        refine c_Ways ?_
        have hk : e.w = 0 ∨ e.w = 1 ∨ e.w = 2 ∨ e.w = 3 := by omega
        have hne : m1.next ≠ M.next := by omega
        rcases hk with h | h | h | h
        all_goals
          have wy1 := wy _ h (by omega)
          simp -implicitDefEqProofs (disch := first | assumption | (simp only [wnA]; done) | (simp only [wnA]; omega) | omega | fail) [wkA, retV, stabOk, dC, ev, fillD, pickCells, putAt, bnd, slD, List.getElem?_cons_zero, List.getElem?_cons_succ, dR_sl, Mem.cell, Mem.row, wmA, hgM, wy1]
          refine w_line (b := m1.next) (i := m.next) (e := e) hp ht heo (hbM.keep ((Old.refl M).push _)) (by omega) (by rw [Mem.push_old _ _ hbn]; exact hg) (by simp; omega) (by simp [t3]) (by simp) (by simp [h]) fun ts' m' r3 r9 r10 r11 hb' => ?_
          simp at r3 r9 r10 r11
          simp -implicitDefEqProofs (disch := first | assumption | (simp only [wnA]; done) | (simp only [wnA]; omega) | omega | fail) [wkA, retV, stabOk, dC, ev, fillD, pickCells, putAt, bnd, slD, List.getElem?_cons_zero, List.getElem?_cons_succ, dR_sl, Mem.cell, Mem.row, wmA, r11, t11, hjw]
          exact hK (k - 1) _ _ (by omega) ⟨j + 1, by omega, by simp [r3, t3], by simp [r9, t9, hvv], by simp [r10, t10], by simp, by rw [hnx]; exact hb'⟩
      · have hwl : wayL e.w = wayL 0 := by
          unfold wayL
          rw [if_neg (by omega), if_neg (by omega), if_neg (by omega)]
          rfl
        have step : ∀ (R : Value → Prop), True := fun _ => trivial
        have key : (decide (e.w ≥ 0) && decide (e.w ≤ 3)) = false := by
          rw [Bool.and_eq_false_iff, decide_eq_false_iff_not, decide_eq_false_iff_not]; omega
        by_cases h0 : 0 ≤ e.w
        · have h3 : ¬ e.w ≤ 3 := by omega
          simp -implicitDefEqProofs (disch := first | assumption | (simp only [wnA]; done) | (simp only [wnA]; omega) | omega | fail) [wkA, retV, stabOk, dC, ev, fillD, pickCells, putAt, bnd, slD, List.getElem?_cons_zero, List.getElem?_cons_succ, dR_sl, Mem.cell, Mem.row, wmA, hgM, h0, h3]
          refine w_line (b := m1.next) (i := m.next) (e := e) hp ht heo hbM (by omega) hg hbn (by simp [t3]) (by simp) (by simp [hwl]; rfl) fun ts' m' r3 r9 r10 r11 hb' => ?_
          simp at r3 r9 r10 r11
          simp -implicitDefEqProofs (disch := first | assumption | (simp only [wnA]; done) | (simp only [wnA]; omega) | omega | fail) [wkA, retV, stabOk, dC, ev, fillD, pickCells, putAt, bnd, slD, List.getElem?_cons_zero, List.getElem?_cons_succ, dR_sl, Mem.cell, Mem.row, wmA, r11, t11, hjw]
          exact hK (k - 1) _ _ (by omega) ⟨j + 1, by omega, by simp [r3, t3], by simp [r9, t9, hvv], by simp [r10, t10], by simp, by rw [hnx]; exact hb'⟩
        · simp -implicitDefEqProofs (disch := first | assumption | (simp only [wnA]; done) | (simp only [wnA]; omega) | omega | fail) [wkA, retV, stabOk, dC, ev, fillD, pickCells, putAt, bnd, slD, List.getElem?_cons_zero, List.getElem?_cons_succ, dR_sl, Mem.cell, Mem.row, wmA, hgM, h0]
          refine w_line (b := m1.next) (i := m.next) (e := e) hp ht heo hbM (by omega) hg hbn (by simp [t3]) (by simp) (by simp [hwl]; rfl) fun ts' m' r3 r9 r10 r11 hb' => ?_
          simp at r3 r9 r10 r11
          simp -implicitDefEqProofs (disch := first | assumption | (simp only [wnA]; done) | (simp only [wnA]; omega) | omega | fail) [wkA, retV, stabOk, dC, ev, fillD, pickCells, putAt, bnd, slD, List.getElem?_cons_zero, List.getElem?_cons_succ, dR_sl, Mem.cell, Mem.row, wmA, r11, t11, hjw]
          exact hK (k - 1) _ _ (by omega) ⟨j + 1, by omega, by simp [r3, t3], by simp [r9, t9, hvv], by simp [r10, t10], by simp, by rw [hnx]; exact hb'⟩
    · have hjj : j = es.length := by omega
      subst hjj
      rw [List.take_length] at hb hlen
      simp -implicitDefEqProofs (disch := first | assumption | (simp only [wnA]; done) | (simp only [wnA]; omega) | omega | fail) [hjl, rc11_3, wkA, retV, stabOk, dC, ev, fillD, pickCells, putAt, bnd, slD, List.getElem?_cons_zero, List.getElem?_cons_succ, dR_sl, Mem.cell, Mem.row, wmA, t3]
      refine c_BString hb (by omega) fun m2 o2 => ?_
      simp -implicitDefEqProofs (disch := first | assumption | (simp only [wnA]; done) | (simp only [wnA]; omega) | omega | fail) [wkA, retV, stabOk, dC, ev, fillD, pickCells, putAt, bnd, slD, List.getElem?_cons_zero, List.getElem?_cons_succ, dR_sl, Mem.cell, Mem.row, wmA]
      exact hq m2 o2
end Go.Proofs.YtgfkjldohilmkaaDoor.Ab
