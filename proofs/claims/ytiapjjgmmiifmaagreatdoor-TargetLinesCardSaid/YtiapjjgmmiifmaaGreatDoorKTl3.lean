/- The law TargetLines, as its statement says it: for every input; the listed variables hold what the program's text lays. -/
import Derived.Test.YtiapjjgmmiifmaaGreatDoorKTl2
import Derived.Test.YtiapjjgmmiifmaaGreatDoorProg
import Derived.KernelRfl
import Derived.Shelf.Strings.Trim
import Derived.Shelf.Strconv.Itoa1
import Derived.Shelf.LaysM
import Derived.Shelf.Strconv.Itoa2
import Derived.Shelf.Strconv.Itoa3
import Derived.Shelf.LaysC
import Derived.Shelf.Strconv.ToError
import Derived.Shelf.Strconv.ToErrorRange
import Derived.Shelf.Strings.Split
import Derived.Lib.AppendIntMem
import Derived.Lib.ItoaMem
import Derived.Test.YtiapjjgmmiifmaaGreatDoorCards
import Derived.Test.YtiapjjgmmiifmaaGreatDoorTie
import Derived.WalkKit
import Derived.ProofKit
import Derived.OpenShut
import Derived.JoinedCond
import Derived.ChangeOld
import Derived.Deep.DeepHandedRow
import Derived.Deep.DeepWitnessRowRef
set_option maxHeartbeats 4000000
namespace Go.Proofs.YtiapjjgmmiifmaaGreatDoor.Ab
open Go Go.RowKit
abbrev zt (n : Nat) : Operand := .tmp n
abbrev zi (n : Int) : Operand := .const (.int .i64 n)
abbrev zr (n : Nat) (x : RO) : Sp := ⟨some n, none, .r x, []⟩
abbrev za (n : Nat) (x : Operand) : Sp := ⟨some n, none, .a x, []⟩
abbrev zf (n : Nat) (x : EO) : Sp := ⟨some n, none, .e x, []⟩
abbrev ze (x : EO) : Sp := ⟨none, none, .e x, []⟩
abbrev zg (n c : Nat) (b : Bool) (x : RO) : Sp := ⟨some n, some (c, b), .r x, []⟩
abbrev zc (n f : Nat) (l : List Operand) : Sp := ⟨some n, none, .c (.fn f l), []⟩
/-- The zero memory of a board. -/
noncomputable def zst : List Value := cellsV (Option.getD (TypeInfo.zero Tryz.t75) .nilIface)
def rc5_0 : RC := (.seq (.run [zr 15 (.mv (zt 0)), zr 16 (.cvi .i64 (zt 15)), zc 17 21 [(zt 16)], zr 18 (.mv (zt 1)), zr 19 (.cvi .i64 (zt 18)), zc 20 21 [(zt 19)], zr 21 (.mv (zt 2)), zr 22 (.cvi .i64 (zt 21)), zc 23 21 [(zt 22)], za 9 (zt 17), za 10 (zt 20), za 11 (zt 23)])
  (.seq (.run [zf 24 (.bsl 9 1 4 [(.string ⟨#[]⟩), (.string ⟨#[]⟩), (.string ⟨#[]⟩), (.string ⟨#[]⟩)] [(0, 1, (.const (.string ⟨#[99, 104, 101, 99, 107]⟩))), (1, 1, (.const (.string ⟨#[99, 114, 99]⟩))), (2, 1, (.const (.string ⟨#[108, 97, 114, 103, 101]⟩))), (3, 1, (.const (.string ⟨#[98, 97, 116, 99, 104]⟩)))]), zr 25 (.mv (zt 3)), zr 26 (.mn (zt 25) (zi 3)), zr 27 (.mx (zi 0) (zt 26)), zr 28 (.ia 1 (zt 24) (zt 27)), zr 29 (.ld (zt 28)), za 12 (zt 29)])
  (.seq (.run [zr 30 (.mv (zt 0)), zr 31 (.cvi .i64 (zt 30)), zr 32 (.mv (zt 1)), zr 33 (.cvi .i64 (zt 32)), zr 34 (.mv (zt 2)), zr 35 (.bld [(.int .i64 0), (.int .i64 0), (.int .u32 0)] [(0, 1, (zt 31)), (1, 1, (zt 33)), (2, 1, (zt 34))]), zc 36 17 [(zt 35)], zr 37 (.mv (zt 9)), zr 38 (.bin .add (.const (.string ⟨#[115, 117, 109, 32]⟩)) (zt 37)), zr 39 (.bin .add (zt 38) (.const (.string ⟨#[32]⟩))), zr 40 (.mv (zt 10)), zr 41 (.bin .add (zt 39) (zt 40)), zr 42 (.bin .add (zt 41) (.const (.string ⟨#[32]⟩))), zr 43 (.mv (zt 11)), zr 44 (.bin .add (zt 42) (zt 43)), zr 45 (.bin .add (zt 44) (.const (.string ⟨#[13, 10]⟩))), zr 46 (.bin .eql (zt 36) (zt 45)), zr 47 (.mv (zt 46)), zg 48 47 true (.mv (zt 3)), zg 49 47 true (.mv (zt 0)), zg 50 47 true (.cvi .i64 (zt 49)), ⟨(some 51), (some (47, true)), (.c (.fn 18 [(zt 48), (zt 50)])), []⟩, zg 52 47 true (.mv (zt 12)), zg 53 47 true (.bin .add (.const (.string ⟨#[108, 111, 97, 100, 32]⟩)) (zt 52)), zg 54 47 true (.bin .add (zt 53) (.const (.string ⟨#[32]⟩))), zg 55 47 true (.mv (zt 9)), zg 56 47 true (.bin .add (zt 54) (zt 55)), zg 57 47 true (.bin .add (zt 56) (.const (.string ⟨#[13]⟩))), zg 58 47 true (.bin .eql (zt 51) (zt 57)), zr 59 (.pick (zt 47) (zt 58) (.const (.bool false))), zr 60 (.mv (zt 59)), zg 61 60 true (.mv (zt 0)), zg 62 60 true (.cvi .i64 (zt 61)), zg 63 60 true (.mv (zt 1)), zg 64 60 true (.cvi .i64 (zt 63)), ⟨(some 65), (some (60, true)), (.c (.fn 13 [(zt 62), (zt 64)])), []⟩, zg 66 60 true (.mv (zt 9)), zg 67 60 true (.bin .add (.const (.string ⟨#[115, 117, 109, 32]⟩)) (zt 66)), zg 68 60 true (.bin .add (zt 67) (.const (.string ⟨#[32]⟩))), zg 69 60 true (.mv (zt 10)), zg 70 60 true (.bin .add (zt 68) (zt 69)), zg 71 60 true (.bin .add (zt 70) (.const (.string ⟨#[13]⟩))), zg 72 60 true (.bin .eql (zt 65) (zt 71)), zr 73 (.pick (zt 60) (zt 72) (.const (.bool false))), za 8 (zt 73)])
  .ret)))
def rc5 : RC := (.seq (.run [za 8 (.const (.bool false))])
  (.seq (.seq (.run [zc 13 9 [], zr 14 (.not (zt 13))])
  (.cond (zt 14)
  (.seq (.run [za 8 (.const (.bool false))])
  .ret)
  .skip))
  rc5_0))
def ce5 : List (Nat × List Nat × List Nat) := []
def ro5 : List RO := [(.mv (zt 8))]
theorem ok5 : okFn Tryz.prog 5 74 ce5 = some (rc5, ro5) := by kernel_rfl
def rc9_0 : RC := (.seq (.run [zr 16 (.mv (zt 1)), zf 17 (.bsl 5 1 1 [(.int .u8 0)] [(0, 1, (.const (.int .u8 120)))]), zc 18 12 [(zt 16), (zt 17)], za 2 (zt 18)])
  (.seq (.run [zr 19 (.mv (zt 1)), zf 20 (.bsl 5 1 8 [(.int .u8 0), (.int .u8 0), (.int .u8 0), (.int .u8 0), (.int .u8 0), (.int .u8 0), (.int .u8 0), (.int .u8 0)] [(0, 1, (.const (.int .u8 115))), (1, 1, (.const (.int .u8 117))), (2, 1, (.const (.int .u8 109))), (3, 1, (.const (.int .u8 32))), (4, 1, (.const (.int .u8 48))), (5, 1, (.const (.int .u8 32))), (6, 1, (.const (.int .u8 51))), (7, 1, (.const (.int .u8 13)))]), zf 21 (.cvm 5 (zt 20)), zc 22 12 [(zt 19), (zt 21)], za 3 (zt 22)])
  (.seq (.run [zr 23 (.mv (zt 1)), zc 24 15 [(zt 23)], za 4 (zt 24)])
  (.seq (.run [zr 25 (.mv (zt 2)), zr 26 (.b2s (zt 25)), zr 27 (.bin .eql (zt 26) (.const (.string ⟨#[13, 10, 61, 62, 32]⟩))), zr 28 (.mv (zt 27)), zg 29 28 true (.mv (zt 4)), zg 30 28 true (.lenl (zt 29)), zg 31 28 true (.bin .eql (zt 30) (zi 1)), zr 32 (.pick (zt 28) (zt 31) (.const (.bool false))), zr 33 (.mv (zt 32)), zg 34 33 true (.mv (zt 4)), zg 35 33 true (.ia 3 (zt 34) (zi 0)), zg 36 33 true (.fa 1 (zt 35)), zg 37 33 true (.ld (zt 36)), zg 38 33 true (.bin .eql (zt 37) (zi 3)), zr 39 (.pick (zt 33) (zt 38) (.const (.bool false))), zr 40 (.mv (zt 39)), zg 41 40 true (.mv (zt 3)), zg 42 40 true (.b2s (zt 41)), zg 43 40 true (.mv (zt 4)), zg 44 40 true (.ia 3 (zt 43) (zi 0)), zg 45 40 true (.ldn 3 (zt 44)), ⟨(some 46), (some (40, true)), (.c (.fn 17 [(zt 45)])), [(42, (some (40, true)), .b2s (zt 41))]⟩, zg 47 40 true (.bin .add (zt 46) (.const (.string ⟨#[61, 62, 32]⟩))), zg 48 40 true (.bin .eql (zt 42) (zt 47)), zr 49 (.pick (zt 40) (zt 48) (.const (.bool false))), za 0 (zt 49)])
  .ret))))
def rc9 : RC := (.seq (.run [za 0 (.const (.bool false))])
  (.seq (.run [zr 5 (.bld [(.int .i64 0), (.int .i64 0)] [(0, 1, (zi 3)), (1, 1, (zi 5))]), zc 6 10 [(zt 5)], za 1 (zt 6)])
  (.seq (.seq (.run [zr 7 (.mv (zt 1)), zr 8 (.eq false .ptr (zt 7) (.const (.pointer none))), zr 9 (.mv (zt 8)), zg 10 9 false (.mv (zt 1)), zg 11 9 false (.nck (zt 10)), zg 12 9 false (.fa 0 (zt 11)), zg 13 9 false (.ld (zt 12)), zg 14 9 false (.eq false .ptr (zt 13) (.const (.pointer none))), zr 15 (.pick (zt 9) (.const (.bool true)) (zt 14))])
  (.cond (zt 15)
  (.seq (.run [za 0 (.const (.bool false))])
  .ret)
  .skip))
  rc9_0)))
def ce9 : List (Nat × List Nat × List Nat) := [(7, [0, 1, 2, 3, 4, 5, 6, 7, 8, 9, 10, 11, 12, 13, 14, 15, 16, 17, 18, 19, 20, 21, 22, 23, 24, 25], [0, 1, 3, 7, 15, 31, 63, 127, 255, 511, 1023, 2047, 4095, 8191, 16383, 32767, 65535, 131071, 65535, 327679, 851967, 1900543, 3997695, 8388607, 16777215, 33554431])]
def ro9 : List RO := [(.mv (zt 0))]
theorem ok9 : okFn Tryz.prog 9 50 ce9 = some (rc9, ro9) := by kernel_rfl
noncomputable def rc10 : RC := (.seq (.run [zf 1 (.bx 28 (zt 0)), za 2 (.const (.pointer none))])
  (.seq (.run [zr 3 (.bld zst []), zf 4 (.bx 75 (zt 3)), zr 5 (.ldn 2 (zt 1)), zr 6 (.bld [(.pointer none), (.int .i64 0), (.int .i64 0), (.bool false), (.slice none 0 0), .nilIface, (.int .i64 0), (.slice none 0 0)] [(0, 1, (zt 4)), (1, 2, (zt 5)), (3, 1, (.const (.bool true)))]), zf 7 (.bx 34 (zt 6)), za 2 (zt 7)])
  .ret))
noncomputable def ce10 : List (Nat × List Nat × List Nat) := []
noncomputable def ro10 : List RO := [(.mv (zt 2))]
theorem ok10 : okFn Tryz.prog 10 8 ce10 = some (rc10, ro10) := by kernel_rfl
def rc11_0 : RC := (.seq (.run [zr 12 (.mv (zt 0)), zr 13 (.nck (zt 12)), zr 14 (.fa 0 (zt 13)), zr 15 (.mv (zt 1)), zr 16 (.sla 16384 1 (zt 14) (some (zt 15)) none), zr 17 (.mv (zt 2)), zf 18 (.cpy 1 (zt 16) (zt 17))])
  (.seq (.run [za 6 (.const (.bool true))])
  .ret))
def rc11 : RC := (.seq (.run [za 6 (.const (.bool false))])
  (.seq (.seq (.run [zr 7 (.mv (zt 1)), zr 8 (.mv (zt 2)), zr 9 (.lenl (zt 8)), zc 10 28 [(zt 7), (zt 9)], zr 11 (.not (zt 10))])
  (.cond (zt 11)
  (.seq (.run [za 6 (.const (.bool false))])
  .ret)
  .skip))
  rc11_0))
def ce11 : List (Nat × List Nat × List Nat) := []
def ro11 : List RO := [(.mv (zt 6))]
theorem ok11 : okFn Tryz.prog 11 19 ce11 = some (rc11, ro11) := by kernel_rfl
def rc12_0 : RC := (.seq (.block 1 (.seq (.run [zr 25 (.mv (zt 23)), zr 26 (.ia 1 (zt 21) (zt 23)), zr 27 (.ld (zt 26)), za 6 (zt 25), za 7 (zt 27)])
  (.seq (.seq (.run [zr 28 (.mv (zt 0)), zr 29 (.nck (zt 28)), zr 30 (.fa 5 (zt 29)), zr 31 (.ld (zt 30)), zr 32 (.eq true (.iface []) (zt 31) (.const .nilIface))])
  (.cond (zt 32)
  (.seq (.run [zr 33 (.mv (zt 5)), zr 34 (.mv (zt 0)), zr 35 (.mv (zt 0)), zr 36 (.nck (zt 35)), zr 37 (.fa 5 (zt 36)), zr 38 (.ld (zt 37)), zr 39 (.mv (zt 1)), zr 40 (.mv (zt 6)), zr 41 (.sl 1 (zt 39) (some (zt 40)) none), zr 42 (.nck (zt 38)), zr 43 (.mv (zt 38)), ⟨(some 44), none, (.c (.inv (zt 43) "Put" [(zt 41)])), []⟩, zc 45 29 [(zt 34), (zt 44)], zf 46 (.app 5 1 1 (zt 33) (zt 45)), za 4 (zt 46)])
  .ret)
  .skip))
  (.run [zr 47 (.mv (zt 5)), zr 48 (.mv (zt 0)), zr 49 (.mv (zt 7)), zc 50 30 [(zt 48), (zt 49)], zf 51 (.app 5 1 1 (zt 47) (zt 50)), za 5 (zt 51)]))))
  (.run [zr 52 (.bin .add (zt 23) (zi 1)), zr 23 (.mv (zt 52))]))
def rc12_1 : RC := (.seq (.run [zr 24 (.bin .lss (zt 23) (zt 22))])
  (.seq (.cond (zt 24)
  .skip
  (.exit 0))
  rc12_0))
def rc12_2 : RC := (.seq (.run [zr 53 (.mv (zt 5)), za 4 (zt 53)])
  .ret)
def rc12_3 : RC := (.seq (.run [za 5 (.const (.slice none 0 0))])
  (.seq (.seq (.run [zr 21 (.mv (zt 1)), zr 22 (.lenl (zt 21)), zr 23 (.mv (zi 0))])
  (.block 0 (.loop rc12_1)))
  rc12_2))
def rc12 : RC := (.seq (.run [za 4 (.const (.slice none 0 0))])
  (.seq (.seq (.run [zr 8 (.mv (zt 0)), zr 9 (.nck (zt 8)), zr 10 (.fa 5 (zt 9)), zr 11 (.ld (zt 10)), zr 12 (.eq true (.iface []) (zt 11) (.const .nilIface))])
  (.cond (zt 12)
  (.seq (.run [zr 13 (.mv (zt 0)), zr 14 (.mv (zt 0)), zr 15 (.nck (zt 14)), zr 16 (.fa 5 (zt 15)), zr 17 (.ld (zt 16)), zr 18 (.mv (zt 1)), ⟨(some 19), none, (.c (.inv (zt 17) "Put" [(zt 18)])), []⟩, zc 20 29 [(zt 13), (zt 19)], za 4 (zt 20)])
  .ret)
  .skip))
  rc12_3))
def ce12 : List (Nat × List Nat × List Nat) := [(8, [0, 1, 2, 3, 4, 5, 6, 7, 8, 9, 10, 11, 12, 13, 14], [0, 0, 0, 4, 12, 28, 0, 0, 192, 60, 572, 2044, 4094, 8191, 16383])]
def ro12 : List RO := [(.mv (zt 4))]
theorem ok12 : okFn Tryz.prog 12 54 ce12 = some (rc12, ro12) := by kernel_rfl
def rc13 : RC := (.seq (.run [za 4 (.const (.string ⟨#[]⟩))])
  (.seq (.run [zr 5 (.mv (zt 0)), zc 6 31 [(zt 5), (zi 16)], zr 7 (.bin .add (.const (.string ⟨#[115, 117, 109, 32]⟩)) (zt 6)), zr 8 (.bin .add (zt 7) (.const (.string ⟨#[32]⟩))), zr 9 (.mv (zt 1)), zc 10 31 [(zt 9), (zi 16)], zr 11 (.bin .add (zt 8) (zt 10)), zr 12 (.bin .add (zt 11) (.const (.string ⟨#[13]⟩))), za 4 (zt 12)])
  .ret))
def ce13 : List (Nat × List Nat × List Nat) := []
def ro13 : List RO := [(.mv (zt 4))]
theorem ok13 : okFn Tryz.prog 13 13 ce13 = some (rc13, ro13) := by kernel_rfl
def rc15 : RC := (.seq (.run [za 2 (.const (.slice none 0 0))])
  (.seq (.run [zr 3 (.mv (zt 0)), zr 4 (.nck (zt 3)), zr 5 (.fa 7 (zt 4)), zr 6 (.ld (zt 5)), zf 7 (.app 44 3 24 (.const (.slice none 0 0)) (zt 6)), za 2 (zt 7)])
  .ret))
def ce15 : List (Nat × List Nat × List Nat) := []
def ro15 : List RO := [(.mv (zt 2))]
theorem ok15 : okFn Tryz.prog 15 8 ce15 = some (rc15, ro15) := by kernel_rfl
def rc16 : RC := (.seq (.run [za 2 (.const (.int .u32 0))])
  (.seq (.run [zr 4 (.bld [(.int .u32 0), (.int .u32 0)] []), zf 5 (.bx 81 (zt 4)), za 3 (zt 5)])
  (.seq (.run [zr 6 (.mv (zt 3)), zr 7 (.mv (zt 0)), zc 8 32 [(zt 6), (zt 7)]])
  (.seq (.run [zr 9 (.mv (zt 3)), zc 10 33 [(zt 9)], za 2 (zt 10)])
  .ret))))
def ce16 : List (Nat × List Nat × List Nat) := []
def ro16 : List RO := [(.mv (zt 2))]
theorem ok16 : okFn Tryz.prog 16 11 ce16 = some (rc16, ro16) := by kernel_rfl
def rc17 : RC := (.seq (.run [zf 1 (.bx 44 (zt 0)), za 2 (.const (.string ⟨#[]⟩))])
  (.seq (.run [zr 3 (.fa 0 (zt 1)), zr 4 (.ld (zt 3)), zr 8 (.fa 1 (zt 1)), zr 9 (.ld (zt 8)), zr 13 (.fa 2 (zt 1)), zr 14 (.ld (zt 13)), zr 15 (.cvi .u64 (zt 14)), ⟨(some 5), none, (.c (.fn 31 [(zt 4), (zi 16)])), [(9, none, .ld (zt 8)), (14, none, .ld (zt 13))]⟩, zr 6 (.bin .add (.const (.string ⟨#[115, 117, 109, 32]⟩)) (zt 5)), zr 7 (.bin .add (zt 6) (.const (.string ⟨#[32]⟩))), ⟨(some 10), none, (.c (.fn 31 [(zt 9), (zi 16)])), [(14, none, .ld (zt 13))]⟩, zr 11 (.bin .add (zt 7) (zt 10)), zr 12 (.bin .add (zt 11) (.const (.string ⟨#[32]⟩))), zc 16 34 [(zt 15), (zi 16)], zr 17 (.bin .add (zt 12) (zt 16)), zr 18 (.bin .add (zt 17) (.const (.string ⟨#[13, 10]⟩))), za 2 (zt 18)])
  .ret))
def ce17 : List (Nat × List Nat × List Nat) := [(1, [0, 1, 5, 6, 10, 11, 12, 2, 3, 4, 7, 8, 9, 13, 14, 15, 16], [0, 1, 3, 7, 15, 0, 32, 103, 255, 511, 0, 1024, 3072, 7399, 16383, 32767, 65535])]
def ro17 : List RO := [(.mv (zt 2))]
theorem ok17 : okFn Tryz.prog 17 19 ce17 = some (rc17, ro17) := by kernel_rfl
def rc18 : RC := (.seq (.run [za 4 (.const (.string ⟨#[]⟩))])
  (.seq (.run [zr 6 (.mv (zt 0)), zr 7 (.mn (zt 6) (zi 3)), zr 8 (.mx (zi 0) (zt 7)), zr 13 (.mv (zt 1)), zc 5 35 [], zr 9 (.ia 1 (zt 5) (zt 8)), zr 10 (.ld (zt 9)), zr 11 (.bin .add (.const (.string ⟨#[108, 111, 97, 100, 32]⟩)) (zt 10)), zr 12 (.bin .add (zt 11) (.const (.string ⟨#[32]⟩))), ⟨(some 14), none, (.c (.fn 31 [(zt 13), (zi 16)])), [(10, none, .ld (zt 9))]⟩, zr 15 (.bin .add (zt 12) (zt 14)), zr 16 (.bin .add (zt 15) (.const (.string ⟨#[13]⟩))), za 4 (zt 16)])
  .ret))
def ce18 : List (Nat × List Nat × List Nat) := [(1, [1, 2, 3, 8, 0, 4, 5, 6, 7, 9, 10, 11, 12], [0, 0, 2, 6, 15, 31, 63, 127, 0, 257, 1023, 2047, 4095])]
def ro18 : List RO := [(.mv (zt 4))]
theorem ok18 : okFn Tryz.prog 18 17 ce18 = some (rc18, ro18) := by kernel_rfl
def rc21_0 : RC := (.seq (.run [zr 9 (.mv (zt 0)), zr 10 (.bin .quo (zt 9) (zi 16)), zc 11 21 [(zt 10)], zr 12 (.mv (zt 0)), zr 13 (.bin .rem (zt 12) (zi 16)), zc 14 21 [(zt 13)], zr 15 (.bin .add (zt 11) (zt 14)), za 2 (zt 15)])
  .ret)
def rc21 : RC := (.seq (.run [za 2 (.const (.string ⟨#[]⟩))])
  (.seq (.seq (.run [zr 3 (.mv (zt 0)), zr 4 (.bin .lss (zt 3) (zi 16))])
  (.cond (zt 4)
  (.seq (.run [zr 5 (.mv (zt 0)), zr 6 (.mv (zt 0)), zr 7 (.bin .add (zt 6) (zi 1)), zr 8 (.sls (.const (.string ⟨#[48, 49, 50, 51, 52, 53, 54, 55, 56, 57, 97, 98, 99, 100, 101, 102]⟩)) (some (zt 5)) (some (zt 7))), za 2 (zt 8)])
  .ret)
  .skip))
  rc21_0))
def ce21 : List (Nat × List Nat × List Nat) := []
def ro21 : List RO := [(.mv (zt 2))]
theorem ok21 : okFn Tryz.prog 21 16 ce21 = some (rc21, ro21) := by kernel_rfl
def rc28 : RC := (.seq (.run [za 4 (.const (.bool false))])
  (.seq (.run [zr 5 (.mv (zt 0)), zr 6 (.bin .geq (zt 5) (zi 0)), zr 7 (.mv (zt 6)), zg 8 7 true (.mv (zt 1)), zg 9 7 true (.bin .geq (zt 8) (zi 0)), zr 10 (.pick (zt 7) (zt 9) (.const (.bool false))), zr 11 (.mv (zt 10)), zg 12 11 true (.mv (zt 0)), zg 13 11 true (.bin .leq (zt 12) (zi 16384)), zr 14 (.pick (zt 11) (zt 13) (.const (.bool false))), zr 15 (.mv (zt 14)), zg 16 15 true (.mv (zt 1)), zg 17 15 true (.mv (zt 0)), zg 18 15 true (.bin .sub (zi 16384) (zt 17)), zg 19 15 true (.bin .leq (zt 16) (zt 18)), zr 20 (.pick (zt 15) (zt 19) (.const (.bool false))), za 4 (zt 20)])
  .ret))
def ce28 : List (Nat × List Nat × List Nat) := []
def ro28 : List RO := [(.mv (zt 4))]
theorem ok28 : okFn Tryz.prog 28 21 ce28 = some (rc28, ro28) := by kernel_rfl
def rc29_0 : RC := (.seq (.run [zr 38 (.mv (zt 0)), zr 39 (.nck (zt 38)), zr 40 (.fa 5 (zt 39)), ze (.st 1 (zt 40) (.const .nilIface))])
  (.seq (.run [zr 41 (.mv (zt 1)), zr 42 (.mv (zt 7)), zr 43 (.bin .add (zt 42) (.const (.string ⟨#[61, 62, 32]⟩))), zf 44 (.app 5 1 1 (zt 41) (zt 43)), za 4 (zt 44)])
  .ret))
def rc29_1 : RC := (.seq (.run [za 7 (.const (.string ⟨#[13, 10]⟩))])
  (.seq (.seq (.run [zr 19 (.mv (zt 6)), zr 20 (.eq true (.iface []) (zt 19) (.const .nilIface)), zr 21 (.mv (zt 20)), zg 22 21 false (.mv (zt 0)), zg 23 21 false (.nck (zt 22)), zg 24 21 false (.fa 0 (zt 23)), zg 25 21 false (.ld (zt 24)), zg 26 21 false (.mv (zt 0)), zg 27 21 false (.nck (zt 26)), zg 28 21 false (.fa 6 (zt 27)), zg 29 21 false (.ld (zt 28)), zg 30 21 false (.mv (zt 0)), zg 31 21 false (.nck (zt 30)), zg 32 21 false (.fa 5 (zt 31)), zg 33 21 false (.ld (zt 32)), ⟨(some 34), (some (21, false)), (.c (.inv (zt 33) "Data" [])), [(25, (some (21, false)), .ld (zt 24)), (29, (some (21, false)), .ld (zt 28))]⟩, ⟨(some 35), (some (21, false)), (.c (.fn 11 [(zt 25), (zt 29), (zt 34)])), []⟩, zg 36 21 false (.not (zt 35)), zr 37 (.pick (zt 21) (.const (.bool true)) (zt 36))])
  (.cond (zt 37)
  (.run [za 7 (.const (.string ⟨#[33, 13, 10]⟩))])
  .skip))
  rc29_0))
def rc29 : RC := (.seq (.run [za 4 (.const (.slice none 0 0))])
  (.seq (.run [zr 9 (.mv (zt 0)), zr 10 (.nck (zt 9)), zr 11 (.fa 5 (zt 10)), zr 12 (.ld (zt 11)), ⟨(some 13), none, (.c (.inv (zt 12) "Done" [])), []⟩, zr 8 (.mv (zt 13)), zr 14 (.ext 0 (zt 8)), zr 15 (.ext 1 (zt 8)), za 5 (zt 14), za 6 (zt 15)])
  (.seq (.seq (.run [zr 16 (.mv (zt 5)), zr 17 (.not (zt 16))])
  (.cond (zt 17)
  (.seq (.run [zr 18 (.mv (zt 1)), za 4 (zt 18)])
  .ret)
  .skip))
  rc29_1)))
def ce29 : List (Nat × List Nat × List Nat) := [(5, [0, 1, 2, 3, 4, 5, 6, 7, 8, 9, 10, 11, 12, 13, 14, 15, 16, 17, 18], [0, 1, 3, 7, 15, 31, 63, 7, 135, 391, 903, 7, 2055, 6151, 14343, 30727, 65535, 131071, 262143])]
def ro29 : List RO := [(.mv (zt 4))]
theorem ok29 : okFn Tryz.prog 29 45 ce29 = some (rc29, ro29) := by kernel_rfl
def rc30_0 : RC := (.seq (.run [za 4 (.const (.slice none 0 0))])
  .ret)
def rc30_1 : RC := (.seq (.seq (.run [zr 29 (.mv (zt 0)), zr 30 (.nck (zt 29)), zr 31 (.fa 4 (zt 30)), zr 32 (.ld (zt 31)), zr 33 (.lenl (zt 32)), zr 34 (.bin .lss (zt 33) (zi 80))])
  (.cond (zt 34)
  (.run [zr 35 (.mv (zt 0)), zr 36 (.mv (zt 0)), zr 37 (.nck (zt 36)), zr 38 (.fa 4 (zt 37)), zr 39 (.ld (zt 38)), zr 40 (.mv (zt 1)), zf 41 (.bsl 5 1 1 [(.int .u8 0)] [(0, 1, (zt 40))]), zf 42 (.app 5 1 1 (zt 39) (zt 41)), zr 43 (.nck (zt 35)), zr 44 (.fa 4 (zt 43)), ze (.st 1 (zt 44) (zt 42))])
  .skip))
  rc30_0)
def rc30_2 : RC := (.seq (.seq (.run [zr 15 (.mv (zt 1)), zr 16 (.bin .eql (zt 15) (.const (.int .u8 13)))])
  (.cond (zt 16)
  (.seq (.run [zr 17 (.mv (zt 0)), zr 18 (.nck (zt 17)), zr 19 (.fa 4 (zt 18)), zr 20 (.ld (zt 19)), zr 21 (.b2s (zt 20)), za 5 (zt 21)])
  (.seq (.run [zr 22 (.mv (zt 0)), zr 23 (.nck (zt 22)), zr 24 (.fa 4 (zt 23)), ze (.st 1 (zt 24) (.const (.slice none 0 0)))])
  (.seq (.run [zr 25 (.mv (zt 0)), zr 26 (.mv (zt 5)), zc 27 45 [(zt 25), (zt 26)], zf 28 (.s2b 5 (zt 27)), za 4 (zt 28)])
  .ret)))
  .skip))
  rc30_1)
def rc30 : RC := (.seq (.run [za 4 (.const (.slice none 0 0))])
  (.seq (.seq (.run [zr 6 (.mv (zt 0)), zr 7 (.nck (zt 6)), zr 8 (.fa 3 (zt 7)), zr 9 (.ld (zt 8))])
  (.cond (zt 9)
  (.seq (.run [zr 10 (.mv (zt 0)), zr 11 (.nck (zt 10)), zr 12 (.fa 3 (zt 11)), ze (.st 1 (zt 12) (.const (.bool false)))])
  (.seq (.run [zf 13 (.bsl 5 1 5 [(.int .u8 0), (.int .u8 0), (.int .u8 0), (.int .u8 0), (.int .u8 0)] [(0, 1, (.const (.int .u8 13))), (1, 1, (.const (.int .u8 10))), (2, 1, (.const (.int .u8 61))), (3, 1, (.const (.int .u8 62))), (4, 1, (.const (.int .u8 32)))]), zf 14 (.cvm 5 (zt 13)), za 4 (zt 14)])
  .ret))
  .skip))
  rc30_2))
def ce30 : List (Nat × List Nat × List Nat) := []
def ro30 : List RO := [(.mv (zt 4))]
theorem ok30 : okFn Tryz.prog 30 45 ce30 = some (rc30, ro30) := by kernel_rfl
def rc31 : RC := (.seq (.run [za 4 (.const (.string ⟨#[]⟩))])
  (.seq (.run [zr 5 (.mv (zt 0)), zr 6 (.mv (zt 1)), zc 7 46 [(zt 5), (zt 6)], za 4 (zt 7)])
  .ret))
def ce31 : List (Nat × List Nat × List Nat) := []
def ro31 : List RO := [(.mv (zt 4))]
theorem ok31 : okFn Tryz.prog 31 8 ce31 = some (rc31, ro31) := by kernel_rfl
def rc32_0 : RC := (.seq (.block 1 (.seq (.run [zr 10 (.ia 1 (zt 6) (zt 8)), zr 11 (.ld (zt 10)), za 5 (zt 11)])
  (.seq (.run [zr 12 (.mv (zt 0)), zr 13 (.mv (zt 0)), zr 14 (.nck (zt 13)), zr 15 (.fa 0 (zt 14)), zr 16 (.ld (zt 15)), zr 17 (.mv (zt 5)), zr 18 (.cvi .u32 (zt 17)), zr 19 (.bin .add (zt 16) (zt 18)), zr 20 (.bin .rem (zt 19) (.const (.int .u32 65521))), zr 21 (.nck (zt 12)), zr 22 (.fa 0 (zt 21)), ze (.st 1 (zt 22) (zt 20))])
  (.run [zr 23 (.mv (zt 0)), zr 24 (.mv (zt 0)), zr 25 (.nck (zt 24)), zr 26 (.fa 1 (zt 25)), zr 27 (.ld (zt 26)), zr 28 (.mv (zt 0)), zr 29 (.nck (zt 28)), zr 30 (.fa 0 (zt 29)), zr 31 (.ld (zt 30)), zr 32 (.bin .add (zt 27) (zt 31)), zr 33 (.bin .add (zt 32) (.const (.int .u32 1))), zr 34 (.bin .rem (zt 33) (.const (.int .u32 65521))), zr 35 (.nck (zt 23)), zr 36 (.fa 1 (zt 35)), ze (.st 1 (zt 36) (zt 34))]))))
  (.run [zr 37 (.bin .add (zt 8) (zi 1)), zr 8 (.mv (zt 37))]))
def rc32_1 : RC := (.seq (.run [zr 9 (.bin .lss (zt 8) (zt 7))])
  (.seq (.cond (zt 9)
  .skip
  (.exit 0))
  rc32_0))
def rc32 : RC := (.seq (.run [zr 6 (.mv (zt 1)), zr 7 (.lenl (zt 6)), zr 8 (.mv (zi 0))])
  (.block 0 (.loop rc32_1)))
def ce32 : List (Nat × List Nat × List Nat) := [(4, [0, 1, 2, 3, 4, 5, 6, 7, 8, 9, 10, 11, 12, 13, 14], [0, 0, 2, 6, 14, 0, 32, 96, 224, 510, 1022, 2046, 4095, 8191, 16383])]
def ro32 : List RO := []
theorem ok32 : okFn Tryz.prog 32 38 ce32 = some (rc32, ro32) := by kernel_rfl
def rc33 : RC := (.seq (.run [za 2 (.const (.int .u32 0))])
  (.seq (.run [zr 3 (.mv (zt 0)), zr 4 (.nck (zt 3)), zr 5 (.fa 1 (zt 4)), zr 6 (.ld (zt 5)), zr 7 (.bin .shl (zt 6) (.const (.int .u64 16))), zr 8 (.mv (zt 0)), zr 9 (.nck (zt 8)), zr 10 (.fa 0 (zt 9)), zr 11 (.ld (zt 10)), zr 12 (.bin .or (zt 7) (zt 11)), za 2 (zt 12)])
  .ret))
def ce33 : List (Nat × List Nat × List Nat) := [(1, [0, 1, 2, 3, 4, 5, 6, 7, 8, 9, 10], [0, 1, 3, 7, 15, 0, 32, 96, 224, 511, 1023])]
def ro33 : List RO := [(.mv (zt 2))]
theorem ok33 : okFn Tryz.prog 33 13 ce33 = some (rc33, ro33) := by kernel_rfl
def rc34 : RC := (.seq (.run [za 4 (.const (.string ⟨#[]⟩))])
  (.seq (.run [zr 5 (.mv (zt 0)), zr 6 (.mv (zt 1)), zc 7 47 [(zt 5), (zt 6)], za 4 (zt 7)])
  .ret))
def ce34 : List (Nat × List Nat × List Nat) := []
def ro34 : List RO := [(.mv (zt 4))]
theorem ok34 : okFn Tryz.prog 34 8 ce34 = some (rc34, ro34) := by kernel_rfl
def rc35 : RC := (.seq (.run [za 0 (.const (.slice none 0 0))])
  (.seq (.run [zf 1 (.bsl 9 1 4 [(.string ⟨#[]⟩), (.string ⟨#[]⟩), (.string ⟨#[]⟩), (.string ⟨#[]⟩)] [(0, 1, (.const (.string ⟨#[99, 104, 101, 99, 107]⟩))), (1, 1, (.const (.string ⟨#[99, 114, 99]⟩))), (2, 1, (.const (.string ⟨#[108, 97, 114, 103, 101]⟩))), (3, 1, (.const (.string ⟨#[98, 97, 116, 99, 104]⟩)))]), za 0 (zt 1)])
  .ret))
def ce35 : List (Nat × List Nat × List Nat) := []
def ro35 : List RO := [(.mv (zt 0))]
theorem ok35 : okFn Tryz.prog 35 2 ce35 = some (rc35, ro35) := by kernel_rfl
def rc45_0 : RC := (.seq (.run [za 4 (.const (.string ⟨#[63, 13, 10, 61, 62, 32]⟩))])
  .ret)
def rc45_1 : RC := (.seq (.seq (.run [zr 99 (.mv (zt 1)), zr 100 (.bin .eql (zt 99) (.const (.string ⟨#[]⟩)))])
  (.cond (zt 100)
  (.seq (.run [za 4 (.const (.string ⟨#[13, 10, 61, 62, 32]⟩))])
  .ret)
  .skip))
  rc45_0)
def rc45_2 : RC := (.seq (.seq (.run [zr 42 (.mv (zt 5)), zr 43 (.lenl (zt 42)), zr 44 (.bin .eql (zt 43) (zi 3)), zr 45 (.mv (zt 44)), zg 46 45 true (.mv (zt 5)), zg 47 45 true (.ia 1 (zt 46) (zi 0)), zg 48 45 true (.ld (zt 47)), zg 49 45 true (.bin .eql (zt 48) (.const (.string ⟨#[115, 117, 109]⟩))), zr 50 (.pick (zt 45) (zt 49) (.const (.bool false)))])
  (.cond (zt 50)
  (.seq (.run [zr 52 (.mv (zt 5)), zr 53 (.ia 1 (zt 52) (zi 1)), zr 54 (.ld (zt 53)), zc 55 63 [(zt 54)], zr 51 (.mv (zt 55)), zr 56 (.ext 0 (zt 51)), zr 57 (.ext 1 (zt 51)), za 8 (zt 56), za 9 (zt 57)])
  (.seq (.run [zr 59 (.mv (zt 5)), zr 60 (.ia 1 (zt 59) (zi 2)), zr 61 (.ld (zt 60)), zc 62 63 [(zt 61)], zr 58 (.mv (zt 62)), zr 63 (.ext 0 (zt 58)), zr 64 (.ext 1 (zt 58)), za 10 (zt 63), za 11 (zt 64)])
  (.seq (.run [zr 66 (.mv (zt 0)), zr 67 (.nck (zt 66)), zr 68 (.fa 0 (zt 67)), zr 69 (.ld (zt 68)), zr 70 (.mv (zt 8)), zr 71 (.mv (zt 10)), zc 72 65 [(zt 69), (zt 70), (zt 71)], zr 65 (.mv (zt 72)), zr 73 (.ext 0 (zt 65)), zr 74 (.ext 1 (zt 65)), za 12 (zt 73), za 13 (zt 74)])
  (.seq (.run [zr 75 (.mv (zt 9)), zr 76 (.mv (zt 75)), zg 77 76 true (.mv (zt 11)), zr 78 (.pick (zt 76) (zt 77) (.const (.bool false))), zr 79 (.mv (zt 78)), zg 80 79 true (.mv (zt 13)), zr 81 (.pick (zt 79) (zt 80) (.const (.bool false)))])
  (.cond (zt 81)
  (.seq (.run [zr 82 (.mv (zt 8)), zr 83 (.mv (zt 10)), zr 84 (.mv (zt 12)), zr 85 (.bld [(.int .i64 0), (.int .i64 0), (.int .u32 0)] [(0, 1, (zt 82)), (1, 1, (zt 83)), (2, 1, (zt 84))]), zf 14 (.al [(.int .i64 0), (.int .i64 0), (.int .u32 0)] 44), ze (.st 3 (zt 14) (zt 85))])
  (.seq (.run [zr 86 (.mv (zt 0)), zr 87 (.mv (zt 0)), zr 88 (.nck (zt 87)), zr 89 (.fa 7 (zt 88)), zr 90 (.ld (zt 89)), zr 91 (.ldn 3 (zt 14)), ⟨(some 92), none, (.e (.bsl 44 3 1 [(.int .i64 0), (.int .i64 0), (.int .u32 0)] [(0, 3, (zt 91))])), [(90, none, .ld (zt 89))]⟩, zf 93 (.app 44 3 24 (zt 90) (zt 92)), zr 94 (.nck (zt 86)), zr 95 (.fa 7 (zt 94)), ze (.st 1 (zt 95) (zt 93))])
  (.seq (.run [zr 96 (.ldn 3 (zt 14)), zc 97 17 [(zt 96)], zr 98 (.bin .add (zt 97) (.const (.string ⟨#[61, 62, 32]⟩))), za 4 (zt 98)])
  .ret)))
  .skip)))))
  .skip))
  rc45_1)
def rc45 : RC := (.seq (.run [za 4 (.const (.string ⟨#[]⟩))])
  (.seq (.run [zr 15 (.mv (zt 1)), zc 16 62 [(zt 15), (.const (.string ⟨#[32]⟩))], za 5 (zt 16)])
  (.seq (.seq (.run [zr 17 (.mv (zt 5)), zr 18 (.lenl (zt 17)), zr 19 (.bin .eql (zt 18) (zi 3)), zr 20 (.mv (zt 19)), zg 21 20 true (.mv (zt 5)), zg 22 20 true (.ia 1 (zt 21) (zi 0)), zg 23 20 true (.ld (zt 22)), zg 24 20 true (.bin .eql (zt 23) (.const (.string ⟨#[108, 111, 97, 100]⟩))), zr 25 (.pick (zt 20) (zt 24) (.const (.bool false)))])
  (.cond (zt 25)
  (.seq (.run [zr 27 (.mv (zt 5)), zr 28 (.ia 1 (zt 27) (zi 2)), zr 29 (.ld (zt 28)), zc 30 63 [(zt 29)], zr 26 (.mv (zt 30)), zr 31 (.ext 0 (zt 26)), zr 32 (.ext 1 (zt 26)), za 6 (zt 31), za 7 (zt 32)])
  (.seq (.run [zr 33 (.mv (zt 7)), zr 34 (.mv (zt 33)), zg 35 34 true (.mv (zt 0)), zg 36 34 true (.mv (zt 5)), zg 37 34 true (.ia 1 (zt 36) (zi 1)), zg 38 34 true (.ld (zt 37)), zg 39 34 true (.mv (zt 6)), ⟨(some 40), (some (34, true)), (.c (.fn 64 [(zt 35), (zt 38), (zt 39)])), []⟩, zr 41 (.pick (zt 34) (zt 40) (.const (.bool false)))])
  (.cond (zt 41)
  (.seq (.run [za 4 (.const (.string ⟨#[]⟩))])
  .ret)
  .skip)))
  .skip))
  rc45_2)))
def ce45 : List (Nat × List Nat × List Nat) := [(12, [0, 1, 2, 3, 4, 5, 6, 7, 8, 9, 10], [0, 0, 2, 6, 14, 0, 32, 126, 255, 511, 1023])]
def ro45 : List RO := [(.mv (zt 4))]
theorem ok45 : okFn Tryz.prog 45 101 ce45 = some (rc45, ro45) := by kernel_rfl
def rc46_0 : RC := (.seq (.run [zr 40 (.mv (zt 7)), zr 41 (.bin .add (zi 1) (zt 40)), zr 42 (.sla 24 1 (zt 5) (some (zi 1)) (some (zt 41))), zr 43 (.b2s (zt 42)), za 4 (zt 43)])
  .ret)
def rc46_1 : RC := (.seq (.run [zr 26 (.mv (zt 6)), zc 27 67 [(zt 26)], za 7 (zt 27)])
  (.seq (.run [zr 28 (.mv (zt 7)), zr 29 (.bin .add (zi 1) (zt 28)), zr 30 (.sla 24 1 (zt 5) (some (zi 1)) (some (zt 29))), zr 31 (.mv (zt 6)), zc 32 68 [(zt 30), (zt 31)]])
  (.seq (.seq (.run [zr 33 (.mv (zt 0)), zr 34 (.bin .lss (zt 33) (zi 0))])
  (.cond (zt 34)
  (.seq (.run [zr 35 (.iaa 24 1 (zt 5) (zi 0)), ze (.st 1 (zt 35) (.const (.int .u8 45)))])
  (.seq (.run [zr 36 (.mv (zt 7)), zr 37 (.bin .add (zi 1) (zt 36)), zr 38 (.sla 24 1 (zt 5) none (some (zt 37))), zr 39 (.b2s (zt 38)), za 4 (zt 39)])
  .ret))
  .skip))
  rc46_0)))
def rc46_2 : RC := (.seq (.run [zf 5 (.al [(.int .u8 0), (.int .u8 0), (.int .u8 0), (.int .u8 0), (.int .u8 0), (.int .u8 0), (.int .u8 0), (.int .u8 0), (.int .u8 0), (.int .u8 0), (.int .u8 0), (.int .u8 0), (.int .u8 0), (.int .u8 0), (.int .u8 0), (.int .u8 0), (.int .u8 0), (.int .u8 0), (.int .u8 0), (.int .u8 0), (.int .u8 0), (.int .u8 0), (.int .u8 0), (.int .u8 0)] 123)])
  (.seq (.run [zr 20 (.mv (zt 0)), zr 21 (.cvi .u64 (zt 20)), za 6 (zt 21)])
  (.seq (.seq (.run [zr 22 (.mv (zt 0)), zr 23 (.bin .lss (zt 22) (zi 0))])
  (.cond (zt 23)
  (.run [zr 24 (.mv (zt 6)), zr 25 (.neg (zt 24)), za 6 (zt 25)])
  .skip))
  rc46_1)))
def rc46_3 : RC := (.seq (.run [zr 45 (.mv (zt 0)), zr 46 (.cvi .u64 (zt 45)), zr 47 (.mv (zt 1)), zr 48 (.mv (zt 0)), zr 49 (.bin .lss (zt 48) (zi 0)), zc 50 69 [(.const (.slice none 0 0)), (zt 46), (zt 47), (zt 49), (.const (.bool false))], zr 44 (.mv (zt 50)), zr 51 (.ext 0 (zt 44)), zr 52 (.ext 1 (zt 44)), za 8 (zt 51), za 9 (zt 52)])
  (.seq (.run [zr 53 (.mv (zt 9)), za 4 (zt 53)])
  .ret))
def rc46 : RC := (.seq (.run [za 4 (.const (.string ⟨#[]⟩))])
  (.seq (.seq (.run [zr 10 (.mv (zt 1)), zr 11 (.bin .eql (zt 10) (zi 10))])
  (.cond (zt 11)
  (.seq (.seq (.run [zr 12 (.mv (zt 0)), zr 13 (.bin .leq (zi 0) (zt 12)), zr 14 (.mv (zt 13)), zg 15 14 true (.mv (zt 0)), zg 16 14 true (.bin .lss (zt 15) (zi 100)), zr 17 (.pick (zt 14) (zt 16) (.const (.bool false)))])
  (.cond (zt 17)
  (.seq (.run [zr 18 (.mv (zt 0)), zc 19 66 [(zt 18)], za 4 (zt 19)])
  .ret)
  .skip))
  rc46_2)
  .skip))
  rc46_3))
def ce46 : List (Nat × List Nat × List Nat) := []
def ro46 : List RO := [(.mv (zt 4))]
theorem ok46 : okFn Tryz.prog 46 54 ce46 = some (rc46, ro46) := by kernel_rfl
def rc47_0 : RC := (.seq (.run [zf 5 (.al [(.int .u8 0), (.int .u8 0), (.int .u8 0), (.int .u8 0), (.int .u8 0), (.int .u8 0), (.int .u8 0), (.int .u8 0), (.int .u8 0), (.int .u8 0), (.int .u8 0), (.int .u8 0), (.int .u8 0), (.int .u8 0), (.int .u8 0), (.int .u8 0), (.int .u8 0), (.int .u8 0), (.int .u8 0), (.int .u8 0), (.int .u8 0), (.int .u8 0), (.int .u8 0), (.int .u8 0)] 123)])
  (.seq (.run [zr 16 (.mv (zt 0)), zc 17 67 [(zt 16)], za 6 (zt 17)])
  (.seq (.run [zr 18 (.mv (zt 6)), zr 19 (.sla 24 1 (zt 5) none (some (zt 18))), zr 20 (.mv (zt 0)), zc 21 68 [(zt 19), (zt 20)]])
  (.seq (.run [zr 22 (.mv (zt 6)), zr 23 (.sla 24 1 (zt 5) none (some (zt 22))), zr 24 (.b2s (zt 23)), za 4 (zt 24)])
  .ret))))
def rc47_1 : RC := (.seq (.run [zr 26 (.mv (zt 0)), zr 27 (.mv (zt 1)), zc 28 69 [(.const (.slice none 0 0)), (zt 26), (zt 27), (.const (.bool false)), (.const (.bool false))], zr 25 (.mv (zt 28)), zr 29 (.ext 0 (zt 25)), zr 30 (.ext 1 (zt 25)), za 7 (zt 29), za 8 (zt 30)])
  (.seq (.run [zr 31 (.mv (zt 8)), za 4 (zt 31)])
  .ret))
def rc47 : RC := (.seq (.run [za 4 (.const (.string ⟨#[]⟩))])
  (.seq (.seq (.run [zr 9 (.mv (zt 1)), zr 10 (.bin .eql (zt 9) (zi 10))])
  (.cond (zt 10)
  (.seq (.seq (.run [zr 11 (.mv (zt 0)), zr 12 (.bin .lss (zt 11) (.const (.int .u64 100)))])
  (.cond (zt 12)
  (.seq (.run [zr 13 (.mv (zt 0)), zr 14 (.cvi .i64 (zt 13)), zc 15 66 [(zt 14)], za 4 (zt 15)])
  .ret)
  .skip))
  rc47_0)
  .skip))
  rc47_1))
def ce47 : List (Nat × List Nat × List Nat) := []
def ro47 : List RO := [(.mv (zt 4))]
theorem ok47 : okFn Tryz.prog 47 32 ce47 = some (rc47, ro47) := by kernel_rfl
def rc60 : RC := (.seq (.run [zf 1 (.bx 28 (zt 0)), za 2 (.const (.pointer none))])
  (.seq (.run [zr 3 (.ldn 2 (zt 1)), zr 4 (.ldn 2 (zt 1)), ⟨(some 5), none, (.c (.fn 61 [(zt 4), (.const (.int .u8 0)), (.const (.bool true)), (.const (.bool false)), (zi 1)])), [(3, none, .ldn 2 (zt 1))]⟩, zr 6 (.bld [(.int .i64 0), (.int .i64 0), (.pointer none), (.int .i64 0), (.string ⟨#[]⟩), (.int .i64 0), (.int .i64 0), (.int .i64 0), (.slice none 0 0), (.bool false), .nilIface] [(0, 2, (zt 3)), (2, 1, (zt 5))]), zf 7 (.bx 104 (zt 6)), za 2 (zt 7)])
  .ret))
def ce60 : List (Nat × List Nat × List Nat) := [(1, [0, 1, 2, 3, 4, 5], [0, 0, 2, 7, 15, 31])]
def ro60 : List RO := [(.mv (zt 2))]
theorem ok60 : okFn Tryz.prog 60 8 ce60 = some (rc60, ro60) := by kernel_rfl
def rc61 : RC := (.seq (.run [zf 5 (.bx 28 (zt 0)), za 10 (.const (.pointer none))])
  (.seq (.run [zr 13 (.fa 1 (zt 5)), zr 14 (.ld (zt 13)), zr 15 (.mn (zt 14) (zi 99)), zr 16 (.mx (zi 1) (zt 15)), zr 17 (.fa 0 (zt 5)), zr 18 (.ld (zt 17)), zr 19 (.mn (zt 18) (zi 9)), zr 20 (.mx (zi 1) (zt 19)), ⟨(some 11), none, (.a (zt 16)), [(18, none, .ld (zt 17))]⟩, za 12 (zt 20)])
  (.seq (.run [zr 21 (.mv (zt 2)), zr 22 (.mv (zt 11)), zr 23 (.mv (zt 12)), zr 24 (.mv (zt 1)), zr 25 (.mv (zt 3)), zr 26 (.mv (zt 4)), zr 27 (.mx (zi 1) (zt 26)), zr 28 (.bld [(.bool false), (.int .i64 0), (.int .i64 0), (.int .i64 0), (.int .u8 0), (.bool false), (.bool false), (.slice none 0 0), (.slice none 0 0), (.int .i64 0), (.int .i64 0), (.bool false), .nilIface] [(0, 1, (zt 21)), (1, 1, (zt 22)), (2, 1, (zt 23)), (3, 1, (zi 1)), (4, 1, (zt 24)), (6, 1, (zt 25)), (10, 1, (zt 27))]), zf 29 (.bx 106 (zt 28)), za 10 (zt 29)])
  .ret)))
def ce61 : List (Nat × List Nat × List Nat) := [(1, [0, 1, 2, 3, 4, 5, 6, 7, 8, 9], [0, 1, 3, 7, 0, 16, 48, 112, 15, 511])]
def ro61 : List RO := [(.mv (zt 10))]
theorem ok61 : okFn Tryz.prog 61 30 ce61 = some (rc61, ro61) := by kernel_rfl
def rc62 : RC := (.seq (.run [za 4 (.const (.slice none 0 0))])
  (.seq (.run [zr 5 (.mv (zt 0)), zr 6 (.mv (zt 1)), zc 7 76 [(zt 5), (zt 6), (zi 0), (zi (-1))], za 4 (zt 7)])
  .ret))
def ce62 : List (Nat × List Nat × List Nat) := []
def ro62 : List RO := [(.mv (zt 4))]
theorem ok62 : okFn Tryz.prog 62 8 ce62 = some (rc62, ro62) := by kernel_rfl
def rc63 : RC := (.seq (.run [za 2 (zi 0), za 3 (.const (.bool false))])
  (.seq (.run [zr 7 (.mv (zt 0)), zc 8 77 [(zt 7), (zi 16), (zi 32)], zr 6 (.mv (zt 8)), zr 9 (.ext 0 (zt 6)), zr 10 (.ext 1 (zt 6)), za 4 (zt 9), za 5 (zt 10)])
  (.seq (.run [zr 11 (.mv (zt 4)), zr 12 (.cvi .i64 (zt 11)), zr 13 (.mv (zt 5)), zr 14 (.eq false (.iface []) (zt 13) (.const .nilIface)), zr 15 (.mv (zt 14)), zg 16 15 true (.mv (zt 4)), ⟨(some 17), (some (15, true)), (.c (.fn 34 [(zt 16), (zi 16)])), []⟩, zg 18 15 true (.mv (zt 0)), zg 19 15 true (.bin .eql (zt 17) (zt 18)), zr 20 (.pick (zt 15) (zt 19) (.const (.bool false))), za 2 (zt 12), za 3 (zt 20)])
  .ret)))
def ce63 : List (Nat × List Nat × List Nat) := []
def ro63 : List RO := [(.mv (zt 2)), (.mv (zt 3))]
theorem ok63 : okFn Tryz.prog 63 21 ce63 = some (rc63, ro63) := by kernel_rfl
def rc64_0 : RC := (.seq (.run [za 6 (.const (.bool true))])
  .ret)
def rc64_1 : RC := (.seq (.run [zr 19 (.mv (zt 0)), zr 20 (.mv (zt 2)), zr 21 (.nck (zt 19)), zr 22 (.fa 6 (zt 21)), ze (.st 1 (zt 22) (zt 20))])
  (.seq (.seq (.run [zr 23 (.mv (zt 7)), zr 24 (.bin .eql (zt 23) (zi 3))])
  (.cond (zt 24)
  (.run [zr 25 (.mv (zt 0)), zr 26 (.mv (zt 0)), zr 27 (.nck (zt 26)), zr 28 (.fa 1 (zt 27)), zr 29 (.ldn 2 (zt 28)), zc 30 60 [(zt 29)], zr 31 (.mki 92 (zt 30)), zr 32 (.nck (zt 25)), zr 33 (.fa 5 (zt 32)), ze (.st 1 (zt 33) (zt 31))])
  (.run [zr 34 (.mv (zt 0)), zr 35 (.mv (zt 0)), zr 36 (.nck (zt 35)), zr 37 (.fa 1 (zt 36)), zr 38 (.ldn 2 (zt 37)), zr 39 (.mv (zt 7)), zr 40 (.bin .neq (zt 39) (zi 0)), zc 41 61 [(zt 38), (.const (.int .u8 1)), (zt 40), (.const (.bool true)), (zi 1)], zr 42 (.mki 91 (zt 41)), zr 43 (.nck (zt 34)), zr 44 (.fa 5 (zt 43)), ze (.st 1 (zt 44) (zt 42))])))
  rc64_0))
def rc64_2 : RC := (.seq (.block 1 (.seq (.run [zr 13 (.mv (zt 11)), zr 14 (.ia 1 (zt 9) (zt 11)), zr 15 (.ld (zt 14)), za 7 (zt 13), za 8 (zt 15)])
  (.seq (.seq (.run [zr 16 (.mv (zt 8)), zr 17 (.mv (zt 1)), zr 18 (.bin .neq (zt 16) (zt 17))])
  (.cond (zt 18)
  (.exit 1)
  .skip))
  rc64_1)))
  (.run [zr 45 (.bin .add (zt 11) (zi 1)), zr 11 (.mv (zt 45))]))
def rc64_3 : RC := (.seq (.run [zr 12 (.bin .lss (zt 11) (zt 10))])
  (.seq (.cond (zt 12)
  .skip
  (.exit 0))
  rc64_2))
def rc64_4 : RC := (.seq (.run [za 6 (.const (.bool false))])
  .ret)
def rc64 : RC := (.seq (.run [za 6 (.const (.bool false))])
  (.seq (.seq (.run [zc 9 35 [], zr 10 (.lenl (zt 9)), zr 11 (.mv (zi 0))])
  (.block 0 (.loop rc64_3)))
  rc64_4))
def ce64 : List (Nat × List Nat × List Nat) := []
def ro64 : List RO := [(.mv (zt 6))]
theorem ok64 : okFn Tryz.prog 64 46 ce64 = some (rc64, ro64) := by kernel_rfl
def rc65_0 : RC := (.seq (.run [zr 12 (.mv (zt 0)), zr 13 (.nck (zt 12)), zr 14 (.fa 0 (zt 13)), zr 15 (.mv (zt 1)), zr 16 (.mv (zt 1)), zr 17 (.mv (zt 2)), zr 18 (.bin .add (zt 16) (zt 17)), zr 19 (.sla 16384 1 (zt 14) (some (zt 15)) (some (zt 18))), zc 20 16 [(zt 19)], za 6 (zt 20), za 7 (.const (.bool true))])
  .ret)
def rc65 : RC := (.seq (.run [za 6 (.const (.int .u32 0)), za 7 (.const (.bool false))])
  (.seq (.seq (.run [zr 8 (.mv (zt 1)), zr 9 (.mv (zt 2)), zc 10 28 [(zt 8), (zt 9)], zr 11 (.not (zt 10))])
  (.cond (zt 11)
  (.seq (.run [za 6 (.const (.int .u32 0)), za 7 (.const (.bool false))])
  .ret)
  .skip))
  rc65_0))
def ce65 : List (Nat × List Nat × List Nat) := []
def ro65 : List RO := [(.mv (zt 6)), (.mv (zt 7))]
theorem ok65 : okFn Tryz.prog 65 21 ce65 = some (rc65, ro65) := by kernel_rfl
def rc66_0 : RC := (.seq (.run [zr 9 (.mv (zt 0)), zr 10 (.bin .mul (zt 9) (zi 2)), zr 11 (.mv (zt 0)), zr 12 (.bin .mul (zt 11) (zi 2)), zr 13 (.bin .add (zt 12) (zi 2)), zr 14 (.sls (.const (.string ⟨#[48, 48, 48, 49, 48, 50, 48, 51, 48, 52, 48, 53, 48, 54, 48, 55, 48, 56, 48, 57, 49, 48, 49, 49, 49, 50, 49, 51, 49, 52, 49, 53, 49, 54, 49, 55, 49, 56, 49, 57, 50, 48, 50, 49, 50, 50, 50, 51, 50, 52, 50, 53, 50, 54, 50, 55, 50, 56, 50, 57, 51, 48, 51, 49, 51, 50, 51, 51, 51, 52, 51, 53, 51, 54, 51, 55, 51, 56, 51, 57, 52, 48, 52, 49, 52, 50, 52, 51, 52, 52, 52, 53, 52, 54, 52, 55, 52, 56, 52, 57, 53, 48, 53, 49, 53, 50, 53, 51, 53, 52, 53, 53, 53, 54, 53, 55, 53, 56, 53, 57, 54, 48, 54, 49, 54, 50, 54, 51, 54, 52, 54, 53, 54, 54, 54, 55, 54, 56, 54, 57, 55, 48, 55, 49, 55, 50, 55, 51, 55, 52, 55, 53, 55, 54, 55, 55, 55, 56, 55, 57, 56, 48, 56, 49, 56, 50, 56, 51, 56, 52, 56, 53, 56, 54, 56, 55, 56, 56, 56, 57, 57, 48, 57, 49, 57, 50, 57, 51, 57, 52, 57, 53, 57, 54, 57, 55, 57, 56, 57, 57]⟩)) (some (zt 10)) (some (zt 13))), za 2 (zt 14)])
  .ret)
def rc66 : RC := (.seq (.run [za 2 (.const (.string ⟨#[]⟩))])
  (.seq (.seq (.run [zr 3 (.mv (zt 0)), zr 4 (.bin .lss (zt 3) (zi 10))])
  (.cond (zt 4)
  (.seq (.run [zr 5 (.mv (zt 0)), zr 6 (.mv (zt 0)), zr 7 (.bin .add (zt 6) (zi 1)), zr 8 (.sls (.const (.string ⟨#[48, 49, 50, 51, 52, 53, 54, 55, 56, 57, 97, 98, 99, 100, 101, 102, 103, 104, 105, 106, 107, 108, 109, 110, 111, 112, 113, 114, 115, 116, 117, 118, 119, 120, 121, 122]⟩)) (some (zt 5)) (some (zt 7))), za 2 (zt 8)])
  .ret)
  .skip))
  rc66_0))
def ce66 : List (Nat × List Nat × List Nat) := []
def ro66 : List RO := [(.mv (zt 2))]
theorem ok66 : okFn Tryz.prog 66 15 ce66 = some (rc66, ro66) := by kernel_rfl
def rc67 : RC := (.seq (.run [za 2 (zi 0)])
  (.seq (.run [zr 4 (.mv (zt 0)), zc 5 79 [(zt 4)], zc 6 78 [(zt 5)], za 3 (zt 6)])
  (.seq (.run [zr 7 (.mv (zt 3)), zr 8 (.mv (zt 0)), zr 9 (.mv (zt 3)), zr 10 (.iaa 20 1 (.global 0) (zt 9)), zr 11 (.ld (zt 10)), zr 12 (.bin .geq (zt 8) (zt 11)), zc 13 80 [(zt 12)], zr 14 (.bin .add (zt 7) (zt 13)), za 2 (zt 14)])
  .ret)))
def ce67 : List (Nat × List Nat × List Nat) := []
def ro67 : List RO := [(.mv (zt 2))]
theorem ok67 : okFn Tryz.prog 67 15 ce67 = some (rc67, ro67) := by kernel_rfl
def rc68_0 : RC := (.block 1 (.seq (.run [zr 21 (.mv (zt 1)), zr 22 (.bin .rem (zt 21) (.const (.int .u64 100000000))), zr 23 (.cvi .u32 (zt 22)), za 5 (zt 23)])
  (.seq (.run [zr 24 (.mv (zt 1)), zr 25 (.bin .quo (zt 24) (.const (.int .u64 100000000))), za 1 (zt 25)])
  (.seq (.run [zr 26 (.mv (zt 5)), zr 27 (.bin .quo (zt 26) (.const (.int .u32 10000))), zr 28 (.mv (zt 5)), zr 29 (.bin .rem (zt 28) (.const (.int .u32 10000))), za 6 (zt 27), za 7 (zt 29)])
  (.seq (.run [zr 30 (.mv (zt 7)), zr 31 (.bin .quo (zt 30) (.const (.int .u32 100))), zr 32 (.bin .mul (zt 31) (.const (.int .u32 2))), zr 33 (.mv (zt 7)), zr 34 (.bin .rem (zt 33) (.const (.int .u32 100))), zr 35 (.bin .mul (zt 34) (.const (.int .u32 2))), za 8 (zt 32), za 9 (zt 35)])
  (.seq (.run [zr 36 (.mv (zt 6)), zr 37 (.bin .quo (zt 36) (.const (.int .u32 100))), zr 38 (.bin .mul (zt 37) (.const (.int .u32 2))), zr 39 (.mv (zt 6)), zr 40 (.bin .rem (zt 39) (.const (.int .u32 100))), zr 41 (.bin .mul (zt 40) (.const (.int .u32 2))), za 10 (zt 38), za 11 (zt 41)])
  (.seq (.run [zr 42 (.mv (zt 0)), zr 43 (.mv (zt 4)), zr 44 (.bin .sub (zt 43) (zi 1)), zr 45 (.mv (zt 0)), zr 46 (.mv (zt 4)), zr 47 (.bin .sub (zt 46) (zi 2)), zr 48 (.mv (zt 9)), zr 49 (.bin .add (zt 48) (.const (.int .u32 1))), zr 50 (.ixs (.const (.string ⟨#[48, 48, 48, 49, 48, 50, 48, 51, 48, 52, 48, 53, 48, 54, 48, 55, 48, 56, 48, 57, 49, 48, 49, 49, 49, 50, 49, 51, 49, 52, 49, 53, 49, 54, 49, 55, 49, 56, 49, 57, 50, 48, 50, 49, 50, 50, 50, 51, 50, 52, 50, 53, 50, 54, 50, 55, 50, 56, 50, 57, 51, 48, 51, 49, 51, 50, 51, 51, 51, 52, 51, 53, 51, 54, 51, 55, 51, 56, 51, 57, 52, 48, 52, 49, 52, 50, 52, 51, 52, 52, 52, 53, 52, 54, 52, 55, 52, 56, 52, 57, 53, 48, 53, 49, 53, 50, 53, 51, 53, 52, 53, 53, 53, 54, 53, 55, 53, 56, 53, 57, 54, 48, 54, 49, 54, 50, 54, 51, 54, 52, 54, 53, 54, 54, 54, 55, 54, 56, 54, 57, 55, 48, 55, 49, 55, 50, 55, 51, 55, 52, 55, 53, 55, 54, 55, 55, 55, 56, 55, 57, 56, 48, 56, 49, 56, 50, 56, 51, 56, 52, 56, 53, 56, 54, 56, 55, 56, 56, 56, 57, 57, 48, 57, 49, 57, 50, 57, 51, 57, 52, 57, 53, 57, 54, 57, 55, 57, 56, 57, 57]⟩)) (zt 49)), zr 51 (.mv (zt 9)), zr 52 (.ixs (.const (.string ⟨#[48, 48, 48, 49, 48, 50, 48, 51, 48, 52, 48, 53, 48, 54, 48, 55, 48, 56, 48, 57, 49, 48, 49, 49, 49, 50, 49, 51, 49, 52, 49, 53, 49, 54, 49, 55, 49, 56, 49, 57, 50, 48, 50, 49, 50, 50, 50, 51, 50, 52, 50, 53, 50, 54, 50, 55, 50, 56, 50, 57, 51, 48, 51, 49, 51, 50, 51, 51, 51, 52, 51, 53, 51, 54, 51, 55, 51, 56, 51, 57, 52, 48, 52, 49, 52, 50, 52, 51, 52, 52, 52, 53, 52, 54, 52, 55, 52, 56, 52, 57, 53, 48, 53, 49, 53, 50, 53, 51, 53, 52, 53, 53, 53, 54, 53, 55, 53, 56, 53, 57, 54, 48, 54, 49, 54, 50, 54, 51, 54, 52, 54, 53, 54, 54, 54, 55, 54, 56, 54, 57, 55, 48, 55, 49, 55, 50, 55, 51, 55, 52, 55, 53, 55, 54, 55, 55, 55, 56, 55, 57, 56, 48, 56, 49, 56, 50, 56, 51, 56, 52, 56, 53, 56, 54, 56, 55, 56, 56, 56, 57, 57, 48, 57, 49, 57, 50, 57, 51, 57, 52, 57, 53, 57, 54, 57, 55, 57, 56, 57, 57]⟩)) (zt 51)), zr 53 (.ia 1 (zt 42) (zt 44)), ze (.st 1 (zt 53) (zt 50)), zr 54 (.ia 1 (zt 45) (zt 47)), ze (.st 1 (zt 54) (zt 52))])
  (.seq (.run [zr 55 (.mv (zt 0)), zr 56 (.mv (zt 4)), zr 57 (.bin .sub (zt 56) (zi 3)), zr 58 (.mv (zt 0)), zr 59 (.mv (zt 4)), zr 60 (.bin .sub (zt 59) (zi 4)), zr 61 (.mv (zt 8)), zr 62 (.bin .add (zt 61) (.const (.int .u32 1))), zr 63 (.ixs (.const (.string ⟨#[48, 48, 48, 49, 48, 50, 48, 51, 48, 52, 48, 53, 48, 54, 48, 55, 48, 56, 48, 57, 49, 48, 49, 49, 49, 50, 49, 51, 49, 52, 49, 53, 49, 54, 49, 55, 49, 56, 49, 57, 50, 48, 50, 49, 50, 50, 50, 51, 50, 52, 50, 53, 50, 54, 50, 55, 50, 56, 50, 57, 51, 48, 51, 49, 51, 50, 51, 51, 51, 52, 51, 53, 51, 54, 51, 55, 51, 56, 51, 57, 52, 48, 52, 49, 52, 50, 52, 51, 52, 52, 52, 53, 52, 54, 52, 55, 52, 56, 52, 57, 53, 48, 53, 49, 53, 50, 53, 51, 53, 52, 53, 53, 53, 54, 53, 55, 53, 56, 53, 57, 54, 48, 54, 49, 54, 50, 54, 51, 54, 52, 54, 53, 54, 54, 54, 55, 54, 56, 54, 57, 55, 48, 55, 49, 55, 50, 55, 51, 55, 52, 55, 53, 55, 54, 55, 55, 55, 56, 55, 57, 56, 48, 56, 49, 56, 50, 56, 51, 56, 52, 56, 53, 56, 54, 56, 55, 56, 56, 56, 57, 57, 48, 57, 49, 57, 50, 57, 51, 57, 52, 57, 53, 57, 54, 57, 55, 57, 56, 57, 57]⟩)) (zt 62)), zr 64 (.mv (zt 8)), zr 65 (.ixs (.const (.string ⟨#[48, 48, 48, 49, 48, 50, 48, 51, 48, 52, 48, 53, 48, 54, 48, 55, 48, 56, 48, 57, 49, 48, 49, 49, 49, 50, 49, 51, 49, 52, 49, 53, 49, 54, 49, 55, 49, 56, 49, 57, 50, 48, 50, 49, 50, 50, 50, 51, 50, 52, 50, 53, 50, 54, 50, 55, 50, 56, 50, 57, 51, 48, 51, 49, 51, 50, 51, 51, 51, 52, 51, 53, 51, 54, 51, 55, 51, 56, 51, 57, 52, 48, 52, 49, 52, 50, 52, 51, 52, 52, 52, 53, 52, 54, 52, 55, 52, 56, 52, 57, 53, 48, 53, 49, 53, 50, 53, 51, 53, 52, 53, 53, 53, 54, 53, 55, 53, 56, 53, 57, 54, 48, 54, 49, 54, 50, 54, 51, 54, 52, 54, 53, 54, 54, 54, 55, 54, 56, 54, 57, 55, 48, 55, 49, 55, 50, 55, 51, 55, 52, 55, 53, 55, 54, 55, 55, 55, 56, 55, 57, 56, 48, 56, 49, 56, 50, 56, 51, 56, 52, 56, 53, 56, 54, 56, 55, 56, 56, 56, 57, 57, 48, 57, 49, 57, 50, 57, 51, 57, 52, 57, 53, 57, 54, 57, 55, 57, 56, 57, 57]⟩)) (zt 64)), zr 66 (.ia 1 (zt 55) (zt 57)), ze (.st 1 (zt 66) (zt 63)), zr 67 (.ia 1 (zt 58) (zt 60)), ze (.st 1 (zt 67) (zt 65))])
  (.seq (.run [zr 68 (.mv (zt 0)), zr 69 (.mv (zt 4)), zr 70 (.bin .sub (zt 69) (zi 5)), zr 71 (.mv (zt 0)), zr 72 (.mv (zt 4)), zr 73 (.bin .sub (zt 72) (zi 6)), zr 74 (.mv (zt 11)), zr 75 (.bin .add (zt 74) (.const (.int .u32 1))), zr 76 (.ixs (.const (.string ⟨#[48, 48, 48, 49, 48, 50, 48, 51, 48, 52, 48, 53, 48, 54, 48, 55, 48, 56, 48, 57, 49, 48, 49, 49, 49, 50, 49, 51, 49, 52, 49, 53, 49, 54, 49, 55, 49, 56, 49, 57, 50, 48, 50, 49, 50, 50, 50, 51, 50, 52, 50, 53, 50, 54, 50, 55, 50, 56, 50, 57, 51, 48, 51, 49, 51, 50, 51, 51, 51, 52, 51, 53, 51, 54, 51, 55, 51, 56, 51, 57, 52, 48, 52, 49, 52, 50, 52, 51, 52, 52, 52, 53, 52, 54, 52, 55, 52, 56, 52, 57, 53, 48, 53, 49, 53, 50, 53, 51, 53, 52, 53, 53, 53, 54, 53, 55, 53, 56, 53, 57, 54, 48, 54, 49, 54, 50, 54, 51, 54, 52, 54, 53, 54, 54, 54, 55, 54, 56, 54, 57, 55, 48, 55, 49, 55, 50, 55, 51, 55, 52, 55, 53, 55, 54, 55, 55, 55, 56, 55, 57, 56, 48, 56, 49, 56, 50, 56, 51, 56, 52, 56, 53, 56, 54, 56, 55, 56, 56, 56, 57, 57, 48, 57, 49, 57, 50, 57, 51, 57, 52, 57, 53, 57, 54, 57, 55, 57, 56, 57, 57]⟩)) (zt 75)), zr 77 (.mv (zt 11)), zr 78 (.ixs (.const (.string ⟨#[48, 48, 48, 49, 48, 50, 48, 51, 48, 52, 48, 53, 48, 54, 48, 55, 48, 56, 48, 57, 49, 48, 49, 49, 49, 50, 49, 51, 49, 52, 49, 53, 49, 54, 49, 55, 49, 56, 49, 57, 50, 48, 50, 49, 50, 50, 50, 51, 50, 52, 50, 53, 50, 54, 50, 55, 50, 56, 50, 57, 51, 48, 51, 49, 51, 50, 51, 51, 51, 52, 51, 53, 51, 54, 51, 55, 51, 56, 51, 57, 52, 48, 52, 49, 52, 50, 52, 51, 52, 52, 52, 53, 52, 54, 52, 55, 52, 56, 52, 57, 53, 48, 53, 49, 53, 50, 53, 51, 53, 52, 53, 53, 53, 54, 53, 55, 53, 56, 53, 57, 54, 48, 54, 49, 54, 50, 54, 51, 54, 52, 54, 53, 54, 54, 54, 55, 54, 56, 54, 57, 55, 48, 55, 49, 55, 50, 55, 51, 55, 52, 55, 53, 55, 54, 55, 55, 55, 56, 55, 57, 56, 48, 56, 49, 56, 50, 56, 51, 56, 52, 56, 53, 56, 54, 56, 55, 56, 56, 56, 57, 57, 48, 57, 49, 57, 50, 57, 51, 57, 52, 57, 53, 57, 54, 57, 55, 57, 56, 57, 57]⟩)) (zt 77)), zr 79 (.ia 1 (zt 68) (zt 70)), ze (.st 1 (zt 79) (zt 76)), zr 80 (.ia 1 (zt 71) (zt 73)), ze (.st 1 (zt 80) (zt 78))])
  (.seq (.run [zr 81 (.mv (zt 0)), zr 82 (.mv (zt 4)), zr 83 (.bin .sub (zt 82) (zi 7)), zr 84 (.mv (zt 0)), zr 85 (.mv (zt 4)), zr 86 (.bin .sub (zt 85) (zi 8)), zr 87 (.mv (zt 10)), zr 88 (.bin .add (zt 87) (.const (.int .u32 1))), zr 89 (.ixs (.const (.string ⟨#[48, 48, 48, 49, 48, 50, 48, 51, 48, 52, 48, 53, 48, 54, 48, 55, 48, 56, 48, 57, 49, 48, 49, 49, 49, 50, 49, 51, 49, 52, 49, 53, 49, 54, 49, 55, 49, 56, 49, 57, 50, 48, 50, 49, 50, 50, 50, 51, 50, 52, 50, 53, 50, 54, 50, 55, 50, 56, 50, 57, 51, 48, 51, 49, 51, 50, 51, 51, 51, 52, 51, 53, 51, 54, 51, 55, 51, 56, 51, 57, 52, 48, 52, 49, 52, 50, 52, 51, 52, 52, 52, 53, 52, 54, 52, 55, 52, 56, 52, 57, 53, 48, 53, 49, 53, 50, 53, 51, 53, 52, 53, 53, 53, 54, 53, 55, 53, 56, 53, 57, 54, 48, 54, 49, 54, 50, 54, 51, 54, 52, 54, 53, 54, 54, 54, 55, 54, 56, 54, 57, 55, 48, 55, 49, 55, 50, 55, 51, 55, 52, 55, 53, 55, 54, 55, 55, 55, 56, 55, 57, 56, 48, 56, 49, 56, 50, 56, 51, 56, 52, 56, 53, 56, 54, 56, 55, 56, 56, 56, 57, 57, 48, 57, 49, 57, 50, 57, 51, 57, 52, 57, 53, 57, 54, 57, 55, 57, 56, 57, 57]⟩)) (zt 88)), zr 90 (.mv (zt 10)), zr 91 (.ixs (.const (.string ⟨#[48, 48, 48, 49, 48, 50, 48, 51, 48, 52, 48, 53, 48, 54, 48, 55, 48, 56, 48, 57, 49, 48, 49, 49, 49, 50, 49, 51, 49, 52, 49, 53, 49, 54, 49, 55, 49, 56, 49, 57, 50, 48, 50, 49, 50, 50, 50, 51, 50, 52, 50, 53, 50, 54, 50, 55, 50, 56, 50, 57, 51, 48, 51, 49, 51, 50, 51, 51, 51, 52, 51, 53, 51, 54, 51, 55, 51, 56, 51, 57, 52, 48, 52, 49, 52, 50, 52, 51, 52, 52, 52, 53, 52, 54, 52, 55, 52, 56, 52, 57, 53, 48, 53, 49, 53, 50, 53, 51, 53, 52, 53, 53, 53, 54, 53, 55, 53, 56, 53, 57, 54, 48, 54, 49, 54, 50, 54, 51, 54, 52, 54, 53, 54, 54, 54, 55, 54, 56, 54, 57, 55, 48, 55, 49, 55, 50, 55, 51, 55, 52, 55, 53, 55, 54, 55, 55, 55, 56, 55, 57, 56, 48, 56, 49, 56, 50, 56, 51, 56, 52, 56, 53, 56, 54, 56, 55, 56, 56, 56, 57, 57, 48, 57, 49, 57, 50, 57, 51, 57, 52, 57, 53, 57, 54, 57, 55, 57, 56, 57, 57]⟩)) (zt 90)), zr 92 (.ia 1 (zt 81) (zt 83)), ze (.st 1 (zt 92) (zt 89)), zr 93 (.ia 1 (zt 84) (zt 86)), ze (.st 1 (zt 93) (zt 91))])
  (.run [zr 94 (.mv (zt 4)), zr 95 (.bin .sub (zt 94) (zi 8)), za 4 (zt 95)])))))))))))
def rc68_1 : RC := (.seq (.seq (.run [zr 19 (.mv (zt 4)), zr 20 (.bin .geq (zt 19) (zi 8))])
  (.cond (zt 20)
  .skip
  (.exit 0)))
  rc68_0)
def rc68_2 : RC := (.seq (.run [zr 160 (.mv (zt 4)), zr 161 (.bin .gtr (zt 160) (zi 0))])
  (.cond (zt 161)
  (.run [zr 162 (.mv (zt 0)), zr 163 (.mv (zt 12)), zr 164 (.bin .add (.const (.int .u32 48)) (zt 163)), zr 165 (.cvi .u8 (zt 164)), zr 166 (.ia 1 (zt 162) (zi 0)), ze (.st 1 (zt 166) (zt 165))])
  .skip))
def rc68_3 : RC := (.seq (.seq (.run [zr 138 (.mv (zt 4)), zr 139 (.bin .geq (zt 138) (zi 2))])
  (.cond (zt 139)
  (.seq (.run [zr 140 (.mv (zt 12)), zr 141 (.bin .rem (zt 140) (.const (.int .u32 100))), zr 142 (.bin .mul (zt 141) (.const (.int .u32 2))), za 16 (zt 142)])
  (.seq (.run [zr 143 (.mv (zt 12)), zr 144 (.bin .quo (zt 143) (.const (.int .u32 100))), za 12 (zt 144)])
  (.seq (.run [zr 145 (.mv (zt 0)), zr 146 (.mv (zt 4)), zr 147 (.bin .sub (zt 146) (zi 1)), zr 148 (.mv (zt 0)), zr 149 (.mv (zt 4)), zr 150 (.bin .sub (zt 149) (zi 2)), zr 151 (.mv (zt 16)), zr 152 (.bin .add (zt 151) (.const (.int .u32 1))), zr 153 (.ixs (.const (.string ⟨#[48, 48, 48, 49, 48, 50, 48, 51, 48, 52, 48, 53, 48, 54, 48, 55, 48, 56, 48, 57, 49, 48, 49, 49, 49, 50, 49, 51, 49, 52, 49, 53, 49, 54, 49, 55, 49, 56, 49, 57, 50, 48, 50, 49, 50, 50, 50, 51, 50, 52, 50, 53, 50, 54, 50, 55, 50, 56, 50, 57, 51, 48, 51, 49, 51, 50, 51, 51, 51, 52, 51, 53, 51, 54, 51, 55, 51, 56, 51, 57, 52, 48, 52, 49, 52, 50, 52, 51, 52, 52, 52, 53, 52, 54, 52, 55, 52, 56, 52, 57, 53, 48, 53, 49, 53, 50, 53, 51, 53, 52, 53, 53, 53, 54, 53, 55, 53, 56, 53, 57, 54, 48, 54, 49, 54, 50, 54, 51, 54, 52, 54, 53, 54, 54, 54, 55, 54, 56, 54, 57, 55, 48, 55, 49, 55, 50, 55, 51, 55, 52, 55, 53, 55, 54, 55, 55, 55, 56, 55, 57, 56, 48, 56, 49, 56, 50, 56, 51, 56, 52, 56, 53, 56, 54, 56, 55, 56, 56, 56, 57, 57, 48, 57, 49, 57, 50, 57, 51, 57, 52, 57, 53, 57, 54, 57, 55, 57, 56, 57, 57]⟩)) (zt 152)), zr 154 (.mv (zt 16)), zr 155 (.ixs (.const (.string ⟨#[48, 48, 48, 49, 48, 50, 48, 51, 48, 52, 48, 53, 48, 54, 48, 55, 48, 56, 48, 57, 49, 48, 49, 49, 49, 50, 49, 51, 49, 52, 49, 53, 49, 54, 49, 55, 49, 56, 49, 57, 50, 48, 50, 49, 50, 50, 50, 51, 50, 52, 50, 53, 50, 54, 50, 55, 50, 56, 50, 57, 51, 48, 51, 49, 51, 50, 51, 51, 51, 52, 51, 53, 51, 54, 51, 55, 51, 56, 51, 57, 52, 48, 52, 49, 52, 50, 52, 51, 52, 52, 52, 53, 52, 54, 52, 55, 52, 56, 52, 57, 53, 48, 53, 49, 53, 50, 53, 51, 53, 52, 53, 53, 53, 54, 53, 55, 53, 56, 53, 57, 54, 48, 54, 49, 54, 50, 54, 51, 54, 52, 54, 53, 54, 54, 54, 55, 54, 56, 54, 57, 55, 48, 55, 49, 55, 50, 55, 51, 55, 52, 55, 53, 55, 54, 55, 55, 55, 56, 55, 57, 56, 48, 56, 49, 56, 50, 56, 51, 56, 52, 56, 53, 56, 54, 56, 55, 56, 56, 56, 57, 57, 48, 57, 49, 57, 50, 57, 51, 57, 52, 57, 53, 57, 54, 57, 55, 57, 56, 57, 57]⟩)) (zt 154)), zr 156 (.ia 1 (zt 145) (zt 147)), ze (.st 1 (zt 156) (zt 153)), zr 157 (.ia 1 (zt 148) (zt 150)), ze (.st 1 (zt 157) (zt 155))])
  (.run [zr 158 (.mv (zt 4)), zr 159 (.bin .sub (zt 158) (zi 2)), za 4 (zt 159)]))))
  .skip))
  rc68_2)
def rc68_4 : RC := (.seq (.run [zr 96 (.mv (zt 1)), zr 97 (.cvi .u32 (zt 96)), za 12 (zt 97)])
  (.seq (.seq (.run [zr 98 (.mv (zt 4)), zr 99 (.bin .geq (zt 98) (zi 4))])
  (.cond (zt 99)
  (.seq (.run [zr 100 (.mv (zt 12)), zr 101 (.bin .rem (zt 100) (.const (.int .u32 10000))), za 13 (zt 101)])
  (.seq (.run [zr 102 (.mv (zt 12)), zr 103 (.bin .quo (zt 102) (.const (.int .u32 10000))), za 12 (zt 103)])
  (.seq (.run [zr 104 (.mv (zt 13)), zr 105 (.bin .quo (zt 104) (.const (.int .u32 100))), zr 106 (.bin .mul (zt 105) (.const (.int .u32 2))), zr 107 (.mv (zt 13)), zr 108 (.bin .rem (zt 107) (.const (.int .u32 100))), zr 109 (.bin .mul (zt 108) (.const (.int .u32 2))), za 14 (zt 106), za 15 (zt 109)])
  (.seq (.run [zr 110 (.mv (zt 0)), zr 111 (.mv (zt 4)), zr 112 (.bin .sub (zt 111) (zi 1)), zr 113 (.mv (zt 0)), zr 114 (.mv (zt 4)), zr 115 (.bin .sub (zt 114) (zi 2)), zr 116 (.mv (zt 15)), zr 117 (.bin .add (zt 116) (.const (.int .u32 1))), zr 118 (.ixs (.const (.string ⟨#[48, 48, 48, 49, 48, 50, 48, 51, 48, 52, 48, 53, 48, 54, 48, 55, 48, 56, 48, 57, 49, 48, 49, 49, 49, 50, 49, 51, 49, 52, 49, 53, 49, 54, 49, 55, 49, 56, 49, 57, 50, 48, 50, 49, 50, 50, 50, 51, 50, 52, 50, 53, 50, 54, 50, 55, 50, 56, 50, 57, 51, 48, 51, 49, 51, 50, 51, 51, 51, 52, 51, 53, 51, 54, 51, 55, 51, 56, 51, 57, 52, 48, 52, 49, 52, 50, 52, 51, 52, 52, 52, 53, 52, 54, 52, 55, 52, 56, 52, 57, 53, 48, 53, 49, 53, 50, 53, 51, 53, 52, 53, 53, 53, 54, 53, 55, 53, 56, 53, 57, 54, 48, 54, 49, 54, 50, 54, 51, 54, 52, 54, 53, 54, 54, 54, 55, 54, 56, 54, 57, 55, 48, 55, 49, 55, 50, 55, 51, 55, 52, 55, 53, 55, 54, 55, 55, 55, 56, 55, 57, 56, 48, 56, 49, 56, 50, 56, 51, 56, 52, 56, 53, 56, 54, 56, 55, 56, 56, 56, 57, 57, 48, 57, 49, 57, 50, 57, 51, 57, 52, 57, 53, 57, 54, 57, 55, 57, 56, 57, 57]⟩)) (zt 117)), zr 119 (.mv (zt 15)), zr 120 (.ixs (.const (.string ⟨#[48, 48, 48, 49, 48, 50, 48, 51, 48, 52, 48, 53, 48, 54, 48, 55, 48, 56, 48, 57, 49, 48, 49, 49, 49, 50, 49, 51, 49, 52, 49, 53, 49, 54, 49, 55, 49, 56, 49, 57, 50, 48, 50, 49, 50, 50, 50, 51, 50, 52, 50, 53, 50, 54, 50, 55, 50, 56, 50, 57, 51, 48, 51, 49, 51, 50, 51, 51, 51, 52, 51, 53, 51, 54, 51, 55, 51, 56, 51, 57, 52, 48, 52, 49, 52, 50, 52, 51, 52, 52, 52, 53, 52, 54, 52, 55, 52, 56, 52, 57, 53, 48, 53, 49, 53, 50, 53, 51, 53, 52, 53, 53, 53, 54, 53, 55, 53, 56, 53, 57, 54, 48, 54, 49, 54, 50, 54, 51, 54, 52, 54, 53, 54, 54, 54, 55, 54, 56, 54, 57, 55, 48, 55, 49, 55, 50, 55, 51, 55, 52, 55, 53, 55, 54, 55, 55, 55, 56, 55, 57, 56, 48, 56, 49, 56, 50, 56, 51, 56, 52, 56, 53, 56, 54, 56, 55, 56, 56, 56, 57, 57, 48, 57, 49, 57, 50, 57, 51, 57, 52, 57, 53, 57, 54, 57, 55, 57, 56, 57, 57]⟩)) (zt 119)), zr 121 (.ia 1 (zt 110) (zt 112)), ze (.st 1 (zt 121) (zt 118)), zr 122 (.ia 1 (zt 113) (zt 115)), ze (.st 1 (zt 122) (zt 120))])
  (.seq (.run [zr 123 (.mv (zt 0)), zr 124 (.mv (zt 4)), zr 125 (.bin .sub (zt 124) (zi 3)), zr 126 (.mv (zt 0)), zr 127 (.mv (zt 4)), zr 128 (.bin .sub (zt 127) (zi 4)), zr 129 (.mv (zt 14)), zr 130 (.bin .add (zt 129) (.const (.int .u32 1))), zr 131 (.ixs (.const (.string ⟨#[48, 48, 48, 49, 48, 50, 48, 51, 48, 52, 48, 53, 48, 54, 48, 55, 48, 56, 48, 57, 49, 48, 49, 49, 49, 50, 49, 51, 49, 52, 49, 53, 49, 54, 49, 55, 49, 56, 49, 57, 50, 48, 50, 49, 50, 50, 50, 51, 50, 52, 50, 53, 50, 54, 50, 55, 50, 56, 50, 57, 51, 48, 51, 49, 51, 50, 51, 51, 51, 52, 51, 53, 51, 54, 51, 55, 51, 56, 51, 57, 52, 48, 52, 49, 52, 50, 52, 51, 52, 52, 52, 53, 52, 54, 52, 55, 52, 56, 52, 57, 53, 48, 53, 49, 53, 50, 53, 51, 53, 52, 53, 53, 53, 54, 53, 55, 53, 56, 53, 57, 54, 48, 54, 49, 54, 50, 54, 51, 54, 52, 54, 53, 54, 54, 54, 55, 54, 56, 54, 57, 55, 48, 55, 49, 55, 50, 55, 51, 55, 52, 55, 53, 55, 54, 55, 55, 55, 56, 55, 57, 56, 48, 56, 49, 56, 50, 56, 51, 56, 52, 56, 53, 56, 54, 56, 55, 56, 56, 56, 57, 57, 48, 57, 49, 57, 50, 57, 51, 57, 52, 57, 53, 57, 54, 57, 55, 57, 56, 57, 57]⟩)) (zt 130)), zr 132 (.mv (zt 14)), zr 133 (.ixs (.const (.string ⟨#[48, 48, 48, 49, 48, 50, 48, 51, 48, 52, 48, 53, 48, 54, 48, 55, 48, 56, 48, 57, 49, 48, 49, 49, 49, 50, 49, 51, 49, 52, 49, 53, 49, 54, 49, 55, 49, 56, 49, 57, 50, 48, 50, 49, 50, 50, 50, 51, 50, 52, 50, 53, 50, 54, 50, 55, 50, 56, 50, 57, 51, 48, 51, 49, 51, 50, 51, 51, 51, 52, 51, 53, 51, 54, 51, 55, 51, 56, 51, 57, 52, 48, 52, 49, 52, 50, 52, 51, 52, 52, 52, 53, 52, 54, 52, 55, 52, 56, 52, 57, 53, 48, 53, 49, 53, 50, 53, 51, 53, 52, 53, 53, 53, 54, 53, 55, 53, 56, 53, 57, 54, 48, 54, 49, 54, 50, 54, 51, 54, 52, 54, 53, 54, 54, 54, 55, 54, 56, 54, 57, 55, 48, 55, 49, 55, 50, 55, 51, 55, 52, 55, 53, 55, 54, 55, 55, 55, 56, 55, 57, 56, 48, 56, 49, 56, 50, 56, 51, 56, 52, 56, 53, 56, 54, 56, 55, 56, 56, 56, 57, 57, 48, 57, 49, 57, 50, 57, 51, 57, 52, 57, 53, 57, 54, 57, 55, 57, 56, 57, 57]⟩)) (zt 132)), zr 134 (.ia 1 (zt 123) (zt 125)), ze (.st 1 (zt 134) (zt 131)), zr 135 (.ia 1 (zt 126) (zt 128)), ze (.st 1 (zt 135) (zt 133))])
  (.run [zr 136 (.mv (zt 4)), zr 137 (.bin .sub (zt 136) (zi 4)), za 4 (zt 137)]))))))
  .skip))
  rc68_3))
def rc68 : RC := (.seq (.run [zr 17 (.mv (zt 0)), zr 18 (.lenl (zt 17)), za 4 (zt 18)])
  (.seq (.block 0 (.loop rc68_1))
  rc68_4))
def ce68 : List (Nat × List Nat × List Nat) := [(7, [0, 1, 2, 3, 4, 5, 6, 7, 8, 9, 10, 11, 12, 13, 14], [0, 0, 2, 0, 0, 16, 0, 64, 192, 0, 512, 455, 2503, 8191, 16383]), (8, [0, 1, 2, 3, 4, 5, 6, 7, 8, 9, 10, 11, 12, 13, 14], [0, 0, 2, 0, 0, 16, 0, 64, 192, 0, 512, 455, 2503, 8191, 16383]), (9, [0, 1, 2, 3, 4, 5, 6, 7, 8, 9, 10, 11, 12, 13, 14], [0, 0, 2, 0, 0, 16, 0, 64, 192, 0, 512, 455, 2503, 8191, 16383]), (10, [0, 1, 2, 3, 4, 5, 6, 7, 8, 9, 10, 11, 12, 13, 14], [0, 0, 2, 0, 0, 16, 0, 64, 192, 0, 512, 455, 2503, 8191, 16383]), (17, [0, 1, 2, 3, 4, 5, 6, 7, 8, 9, 10, 11, 12, 13, 14], [0, 0, 2, 0, 0, 16, 0, 64, 192, 0, 512, 455, 2503, 8191, 16383]), (18, [0, 1, 2, 3, 4, 5, 6, 7, 8, 9, 10, 11, 12, 13, 14], [0, 0, 2, 0, 0, 16, 0, 64, 192, 0, 512, 455, 2503, 8191, 16383]), (23, [0, 1, 2, 3, 4, 5, 6, 7, 8, 9, 10, 11, 12, 13, 14], [0, 0, 2, 0, 0, 16, 0, 64, 192, 0, 512, 455, 2503, 8191, 16383])]
def ro68 : List RO := []
theorem ok68 : okFn Tryz.prog 68 167 ce68 = some (rc68, ro68) := by kernel_rfl
def rc69_0 : RC := (.block 1 (.seq (.run [zr 47 (.mv (zt 13)), zr 48 (.bin .sub (zt 47) (zi 1)), za 13 (zt 48)])
  (.seq (.run [zr 49 (.mv (zt 13)), zr 50 (.mv (zt 1)), zr 51 (.mv (zt 16)), zr 52 (.bin .and (zt 50) (zt 51)), zr 53 (.ixs (.const (.string ⟨#[48, 49, 50, 51, 52, 53, 54, 55, 56, 57, 97, 98, 99, 100, 101, 102, 103, 104, 105, 106, 107, 108, 109, 110, 111, 112, 113, 114, 115, 116, 117, 118, 119, 120, 121, 122]⟩)) (zt 52)), zr 54 (.iaa 65 1 (zt 12) (zt 49)), ze (.st 1 (zt 54) (zt 53))])
  (.run [zr 55 (.mv (zt 1)), zr 56 (.mv (zt 14)), zr 57 (.bin .shr (zt 55) (zt 56)), za 1 (zt 57)]))))
def rc69_1 : RC := (.seq (.seq (.run [zr 44 (.mv (zt 1)), zr 45 (.mv (zt 15)), zr 46 (.bin .geq (zt 44) (zt 45))])
  (.cond (zt 46)
  .skip
  (.exit 0)))
  rc69_0)
def rc69_2 : RC := (.seq (.run [zr 58 (.mv (zt 13)), zr 59 (.bin .sub (zt 58) (zi 1)), za 13 (zt 59)])
  (.run [zr 60 (.mv (zt 13)), zr 61 (.mv (zt 1)), zr 62 (.ixs (.const (.string ⟨#[48, 49, 50, 51, 52, 53, 54, 55, 56, 57, 97, 98, 99, 100, 101, 102, 103, 104, 105, 106, 107, 108, 109, 110, 111, 112, 113, 114, 115, 116, 117, 118, 119, 120, 121, 122]⟩)) (zt 61)), zr 63 (.iaa 65 1 (zt 12) (zt 60)), ze (.st 1 (zt 63) (zt 62))]))
def rc69_3 : RC := (.block 3 (.seq (.run [zr 69 (.mv (zt 13)), zr 70 (.bin .sub (zt 69) (zi 1)), za 13 (zt 70)])
  (.seq (.run [zr 71 (.mv (zt 1)), zr 72 (.mv (zt 17)), zr 73 (.bin .quo (zt 71) (zt 72)), za 18 (zt 73)])
  (.seq (.run [zr 74 (.mv (zt 13)), zr 75 (.mv (zt 1)), zr 76 (.mv (zt 18)), zr 77 (.mv (zt 17)), zr 78 (.bin .mul (zt 76) (zt 77)), zr 79 (.bin .sub (zt 75) (zt 78)), zr 80 (.ixs (.const (.string ⟨#[48, 49, 50, 51, 52, 53, 54, 55, 56, 57, 97, 98, 99, 100, 101, 102, 103, 104, 105, 106, 107, 108, 109, 110, 111, 112, 113, 114, 115, 116, 117, 118, 119, 120, 121, 122]⟩)) (zt 79)), zr 81 (.iaa 65 1 (zt 12) (zt 74)), ze (.st 1 (zt 81) (zt 80))])
  (.run [zr 82 (.mv (zt 18)), za 1 (zt 82)])))))
def rc69_4 : RC := (.seq (.seq (.run [zr 66 (.mv (zt 1)), zr 67 (.mv (zt 17)), zr 68 (.bin .geq (zt 66) (zt 67))])
  (.cond (zt 68)
  .skip
  (.exit 2)))
  rc69_3)
def rc69_5 : RC := (.seq (.run [zr 83 (.mv (zt 13)), zr 84 (.bin .sub (zt 83) (zi 1)), za 13 (zt 84)])
  (.run [zr 85 (.mv (zt 13)), zr 86 (.mv (zt 1)), zr 87 (.ixs (.const (.string ⟨#[48, 49, 50, 51, 52, 53, 54, 55, 56, 57, 97, 98, 99, 100, 101, 102, 103, 104, 105, 106, 107, 108, 109, 110, 111, 112, 113, 114, 115, 116, 117, 118, 119, 120, 121, 122]⟩)) (zt 86)), zr 88 (.iaa 65 1 (zt 12) (zt 85)), ze (.st 1 (zt 88) (zt 87))]))
def rc69_6 : RC := (.seq (.run [zr 99 (.mv (zt 13)), zr 100 (.sla 65 1 (zt 12) (some (zt 99)) none), zr 101 (.b2s (zt 100)), za 11 (zt 101)])
  .ret)
def rc69_7 : RC := (.seq (.seq (.run [zr 94 (.mv (zt 4))])
  (.cond (zt 94)
  (.seq (.run [zr 95 (.mv (zt 0)), zr 96 (.mv (zt 13)), zr 97 (.sla 65 1 (zt 12) (some (zt 96)) none), zf 98 (.app 5 1 1 (zt 95) (zt 97)), za 10 (zt 98)])
  .ret)
  .skip))
  rc69_6)
def rc69_8 : RC := (.seq (.seq (.run [zr 89 (.mv (zt 3))])
  (.cond (zt 89)
  (.seq (.run [zr 90 (.mv (zt 13)), zr 91 (.bin .sub (zt 90) (zi 1)), za 13 (zt 91)])
  (.run [zr 92 (.mv (zt 13)), zr 93 (.iaa 65 1 (zt 12) (zt 92)), ze (.st 1 (zt 93) (.const (.int .u8 45)))]))
  .skip))
  rc69_7)
def rc69_9 : RC := (.seq (.seq (.run [zr 33 (.mv (zt 2)), zc 34 81 [(zt 33)]])
  (.cond (zt 34)
  (.seq (.run [zr 35 (.mv (zt 2)), zr 36 (.cvi .u64 (zt 35)), zc 37 82 [(zt 36)], zr 38 (.cvi .u64 (zt 37)), za 14 (zt 38)])
  (.seq (.run [zr 39 (.mv (zt 2)), zr 40 (.cvi .u64 (zt 39)), za 15 (zt 40)])
  (.seq (.run [zr 41 (.mv (zt 2)), zr 42 (.cvi .u64 (zt 41)), zr 43 (.bin .sub (zt 42) (.const (.int .u64 1))), za 16 (zt 43)])
  (.seq (.block 0 (.loop rc69_1))
  rc69_2))))
  (.seq (.run [zr 64 (.mv (zt 2)), zr 65 (.cvi .u64 (zt 64)), za 17 (zt 65)])
  (.seq (.block 2 (.loop rc69_4))
  rc69_5))))
  rc69_8)
def rc69_10 : RC := (.seq (.run [zf 12 (.al [(.int .u8 0), (.int .u8 0), (.int .u8 0), (.int .u8 0), (.int .u8 0), (.int .u8 0), (.int .u8 0), (.int .u8 0), (.int .u8 0), (.int .u8 0), (.int .u8 0), (.int .u8 0), (.int .u8 0), (.int .u8 0), (.int .u8 0), (.int .u8 0), (.int .u8 0), (.int .u8 0), (.int .u8 0), (.int .u8 0), (.int .u8 0), (.int .u8 0), (.int .u8 0), (.int .u8 0), (.int .u8 0), (.int .u8 0), (.int .u8 0), (.int .u8 0), (.int .u8 0), (.int .u8 0), (.int .u8 0), (.int .u8 0), (.int .u8 0), (.int .u8 0), (.int .u8 0), (.int .u8 0), (.int .u8 0), (.int .u8 0), (.int .u8 0), (.int .u8 0), (.int .u8 0), (.int .u8 0), (.int .u8 0), (.int .u8 0), (.int .u8 0), (.int .u8 0), (.int .u8 0), (.int .u8 0), (.int .u8 0), (.int .u8 0), (.int .u8 0), (.int .u8 0), (.int .u8 0), (.int .u8 0), (.int .u8 0), (.int .u8 0), (.int .u8 0), (.int .u8 0), (.int .u8 0), (.int .u8 0), (.int .u8 0), (.int .u8 0), (.int .u8 0), (.int .u8 0), (.int .u8 0)] 141)])
  (.seq (.run [za 13 (zi 65)])
  (.seq (.seq (.run [zr 30 (.mv (zt 3))])
  (.cond (zt 30)
  (.run [zr 31 (.mv (zt 1)), zr 32 (.neg (zt 31)), za 1 (zt 32)])
  .skip))
  rc69_9)))
def rc69 : RC := (.seq (.run [za 10 (.const (.slice none 0 0)), za 11 (.const (.string ⟨#[]⟩))])
  (.seq (.seq (.run [zr 19 (.mv (zt 2)), zr 20 (.bin .lss (zt 19) (zi 2)), zr 21 (.mv (zt 20)), zg 22 21 false (.mv (zt 2)), zg 23 21 false (.bin .eql (zt 22) (zi 10)), zr 24 (.pick (zt 21) (.const (.bool true)) (zt 23)), zr 25 (.mv (zt 24)), zg 26 25 false (.mv (zt 2)), zg 27 25 false (.bin .gtr (zt 26) (zi 36)), zr 28 (.pick (zt 25) (.const (.bool true)) (zt 27))])
  (.cond (zt 28)
  (.run [zr 29 (.mki 9 (.const (.string ⟨#[115, 116, 114, 99, 111, 110, 118, 58, 32, 105, 108, 108, 101, 103, 97, 108, 32, 65, 112, 112, 101, 110, 100, 73, 110, 116, 47, 70, 111, 114, 109, 97, 116, 73, 110, 116, 32, 98, 97, 115, 101]⟩))), ⟨none, none, .bad, []⟩])
  .skip))
  rc69_10))
def ce69 : List (Nat × List Nat × List Nat) := []
def ro69 : List RO := [(.mv (zt 10)), (.mv (zt 11))]
theorem ok69 : okFn Tryz.prog 69 102 ce69 = some (rc69, ro69) := by kernel_rfl
def rc76_0 : RC := (.seq (.run [zr 42 (.mv (zt 9)), zr 43 (.mv (zt 10)), zr 44 (.mv (zt 0)), zr 45 (.mv (zt 11)), zr 46 (.mv (zt 2)), zr 47 (.bin .add (zt 45) (zt 46)), zr 48 (.sls (zt 44) none (some (zt 47))), zr 49 (.ia 1 (zt 42) (zt 43)), ze (.st 1 (zt 49) (zt 48))])
  (.seq (.run [zr 50 (.mv (zt 0)), zr 51 (.mv (zt 11)), zr 52 (.mv (zt 1)), zr 53 (.lens (zt 52)), zr 54 (.bin .add (zt 51) (zt 53)), zr 55 (.sls (zt 50) (some (zt 54)) none), za 0 (zt 55)])
  (.run [zr 56 (.mv (zt 10)), zr 57 (.bin .add (zt 56) (zi 1)), za 10 (zt 57)])))
def rc76_1 : RC := (.block 1 (.seq (.run [zr 37 (.mv (zt 0)), zr 38 (.mv (zt 1)), zc 39 90 [(zt 37), (zt 38)], za 11 (zt 39)])
  (.seq (.seq (.run [zr 40 (.mv (zt 11)), zr 41 (.bin .lss (zt 40) (zi 0))])
  (.cond (zt 41)
  (.exit 0)
  .skip))
  rc76_0)))
def rc76_2 : RC := (.seq (.seq (.run [zr 34 (.mv (zt 10)), zr 35 (.mv (zt 3)), zr 36 (.bin .lss (zt 34) (zt 35))])
  (.cond (zt 36)
  .skip
  (.exit 0)))
  rc76_1)
def rc76_3 : RC := (.seq (.run [zr 58 (.mv (zt 9)), zr 59 (.mv (zt 10)), zr 60 (.mv (zt 0)), zr 61 (.ia 1 (zt 58) (zt 59)), ze (.st 1 (zt 61) (zt 60))])
  (.seq (.run [zr 62 (.mv (zt 9)), zr 63 (.mv (zt 10)), zr 64 (.bin .add (zt 63) (zi 1)), zr 65 (.sl 1 (zt 62) none (some (zt 64))), za 8 (zt 65)])
  .ret))
def rc76_4 : RC := (.seq (.run [zr 25 (.mv (zt 3)), zr 26 (.mv (zt 0)), zr 27 (.lens (zt 26)), zr 28 (.bin .add (zt 27) (zi 1)), zr 29 (.mn (zt 25) (zt 28)), za 3 (zt 29)])
  (.seq (.run [zr 30 (.mv (zt 3)), zf 31 (.mks 9 16 (.string ⟨#[]⟩) (zt 30) (zt 30)), za 9 (zt 31)])
  (.seq (.run [zr 32 (.mv (zt 3)), zr 33 (.bin .sub (zt 32) (zi 1)), za 3 (zt 33)])
  (.seq (.run [za 10 (zi 0)])
  (.seq (.block 0 (.loop rc76_2))
  rc76_3)))))
def rc76_5 : RC := (.seq (.seq (.run [zr 19 (.mv (zt 3)), zr 20 (.bin .lss (zt 19) (zi 0))])
  (.cond (zt 20)
  (.run [zr 21 (.mv (zt 0)), zr 22 (.mv (zt 1)), zc 23 89 [(zt 21), (zt 22)], zr 24 (.bin .add (zt 23) (zi 1)), za 3 (zt 24)])
  .skip))
  rc76_4)
def rc76_6 : RC := (.seq (.seq (.run [zr 14 (.mv (zt 1)), zr 15 (.bin .eql (zt 14) (.const (.string ⟨#[]⟩)))])
  (.cond (zt 15)
  (.seq (.run [zr 16 (.mv (zt 0)), zr 17 (.mv (zt 3)), zc 18 88 [(zt 16), (zt 17)], za 8 (zt 18)])
  .ret)
  .skip))
  rc76_5)
def rc76 : RC := (.seq (.run [za 8 (.const (.slice none 0 0))])
  (.seq (.seq (.run [zr 12 (.mv (zt 3)), zr 13 (.bin .eql (zt 12) (zi 0))])
  (.cond (zt 13)
  (.seq (.run [za 8 (.const (.slice none 0 0))])
  .ret)
  .skip))
  rc76_6))
def ce76 : List (Nat × List Nat × List Nat) := []
def ro76 : List RO := [(.mv (zt 8))]
theorem ok76 : okFn Tryz.prog 76 66 ce76 = some (rc76, ro76) := by kernel_rfl
def rc77_0 : RC := (.seq (.run [zr 25 (.mv (zt 8)), za 6 (zt 25), za 7 (.const .nilIface)])
  .ret)
def rc77 : RC := (.seq (.run [za 6 (.const (.int .u64 0)), za 7 (.const .nilIface)])
  (.seq (.run [zr 11 (.mv (zt 0)), zr 12 (.mv (zt 1)), zr 13 (.mv (zt 2)), zc 14 91 [(zt 11), (zt 12), (zt 13)], zr 10 (.mv (zt 14)), zr 15 (.ext 0 (zt 10)), zr 16 (.ext 1 (zt 10)), za 8 (zt 15), za 9 (zt 16)])
  (.seq (.seq (.run [zr 17 (.mv (zt 9)), zr 18 (.eq true (.iface []) (zt 17) (.const .nilIface))])
  (.cond (zt 18)
  (.seq (.run [zr 19 (.mv (zt 8)), zr 20 (.mv (zt 0)), zr 21 (.mv (zt 1)), zr 22 (.mv (zt 2)), zr 23 (.mv (zt 9)), zc 24 92 [(.const (.string ⟨#[80, 97, 114, 115, 101, 85, 105, 110, 116]⟩)), (zt 20), (zt 21), (zt 22), (zt 23)], za 6 (zt 19), za 7 (zt 24)])
  .ret)
  .skip))
  rc77_0)))
def ce77 : List (Nat × List Nat × List Nat) := []
def ro77 : List RO := [(.mv (zt 6)), (.mv (zt 7))]
theorem ok77 : okFn Tryz.prog 77 26 ce77 = some (rc77, ro77) := by kernel_rfl
def rc78 : RC := (.seq (.run [za 2 (zi 0)])
  (.seq (.run [zr 3 (.mv (zt 0)), zr 4 (.bin .mul (zt 3) (zi 78913)), zr 5 (.bin .shr (zt 4) (.const (.int .u64 18))), za 2 (zt 5)])
  .ret))
def ce78 : List (Nat × List Nat × List Nat) := []
def ro78 : List RO := [(.mv (zt 2))]
theorem ok78 : okFn Tryz.prog 78 6 ce78 = some (rc78, ro78) := by kernel_rfl
def rc79_0 : RC := (.seq (.run [zr 19 (.mv (zt 2)), zr 20 (.mv (zt 0)), zr 21 (.cvi .u8 (zt 20)), zr 22 (.ixs (.const (.string ⟨#[0, 1, 2, 2, 3, 3, 3, 3, 4, 4, 4, 4, 4, 4, 4, 4, 5, 5, 5, 5, 5, 5, 5, 5, 5, 5, 5, 5, 5, 5, 5, 5, 6, 6, 6, 6, 6, 6, 6, 6, 6, 6, 6, 6, 6, 6, 6, 6, 6, 6, 6, 6, 6, 6, 6, 6, 6, 6, 6, 6, 6, 6, 6, 6, 7, 7, 7, 7, 7, 7, 7, 7, 7, 7, 7, 7, 7, 7, 7, 7, 7, 7, 7, 7, 7, 7, 7, 7, 7, 7, 7, 7, 7, 7, 7, 7, 7, 7, 7, 7, 7, 7, 7, 7, 7, 7, 7, 7, 7, 7, 7, 7, 7, 7, 7, 7, 7, 7, 7, 7, 7, 7, 7, 7, 7, 7, 7, 7, 8, 8, 8, 8, 8, 8, 8, 8, 8, 8, 8, 8, 8, 8, 8, 8, 8, 8, 8, 8, 8, 8, 8, 8, 8, 8, 8, 8, 8, 8, 8, 8, 8, 8, 8, 8, 8, 8, 8, 8, 8, 8, 8, 8, 8, 8, 8, 8, 8, 8, 8, 8, 8, 8, 8, 8, 8, 8, 8, 8, 8, 8, 8, 8, 8, 8, 8, 8, 8, 8, 8, 8, 8, 8, 8, 8, 8, 8, 8, 8, 8, 8, 8, 8, 8, 8, 8, 8, 8, 8, 8, 8, 8, 8, 8, 8, 8, 8, 8, 8, 8, 8, 8, 8, 8, 8, 8, 8, 8, 8, 8, 8, 8, 8, 8, 8, 8, 8, 8, 8, 8, 8, 8, 8, 8, 8, 8, 8]⟩)) (zt 21)), zr 23 (.cvi .i64 (zt 22)), zr 24 (.bin .add (zt 19) (zt 23)), za 2 (zt 24)])
  .ret)
def rc79_1 : RC := (.seq (.seq (.run [zr 13 (.mv (zt 0)), zr 14 (.bin .geq (zt 13) (.const (.int .u64 256)))])
  (.cond (zt 14)
  (.seq (.run [zr 15 (.mv (zt 0)), zr 16 (.bin .shr (zt 15) (.const (.int .u64 8))), za 0 (zt 16)])
  (.run [zr 17 (.mv (zt 2)), zr 18 (.bin .add (zt 17) (zi 8)), za 2 (zt 18)]))
  .skip))
  rc79_0)
def rc79_2 : RC := (.seq (.seq (.run [zr 7 (.mv (zt 0)), zr 8 (.bin .geq (zt 7) (.const (.int .u64 65536)))])
  (.cond (zt 8)
  (.seq (.run [zr 9 (.mv (zt 0)), zr 10 (.bin .shr (zt 9) (.const (.int .u64 16))), za 0 (zt 10)])
  (.run [zr 11 (.mv (zt 2)), zr 12 (.bin .add (zt 11) (zi 16)), za 2 (zt 12)]))
  .skip))
  rc79_1)
def rc79 : RC := (.seq (.run [za 2 (zi 0)])
  (.seq (.seq (.run [zr 3 (.mv (zt 0)), zr 4 (.bin .geq (zt 3) (.const (.int .u64 4294967296)))])
  (.cond (zt 4)
  (.seq (.run [zr 5 (.mv (zt 0)), zr 6 (.bin .shr (zt 5) (.const (.int .u64 32))), za 0 (zt 6)])
  (.run [za 2 (zi 32)]))
  .skip))
  rc79_2))
def ce79 : List (Nat × List Nat × List Nat) := []
def ro79 : List RO := [(.mv (zt 2))]
theorem ok79 : okFn Tryz.prog 79 25 ce79 = some (rc79, ro79) := by kernel_rfl
def rc80_0 : RC := (.seq (.run [za 2 (zi 0)])
  .ret)
def rc80 : RC := (.seq (.run [za 2 (zi 0)])
  (.seq (.seq (.run [zr 3 (.mv (zt 0))])
  (.cond (zt 3)
  (.seq (.run [za 2 (zi 1)])
  .ret)
  .skip))
  rc80_0))
def ce80 : List (Nat × List Nat × List Nat) := []
def ro80 : List RO := [(.mv (zt 2))]
theorem ok80 : okFn Tryz.prog 80 4 ce80 = some (rc80, ro80) := by kernel_rfl
def rc81 : RC := (.seq (.run [za 2 (.const (.bool false))])
  (.seq (.run [zr 3 (.mv (zt 0)), zr 4 (.mv (zt 0)), zr 5 (.bin .sub (zt 4) (zi 1)), zr 6 (.bin .and (zt 3) (zt 5)), zr 7 (.bin .eql (zt 6) (zi 0)), za 2 (zt 7)])
  .ret))
def ce81 : List (Nat × List Nat × List Nat) := []
def ro81 : List RO := [(.mv (zt 2))]
theorem ok81 : okFn Tryz.prog 81 8 ce81 = some (rc81, ro81) := by kernel_rfl
def rc82_0 : RC := (.seq (.run [zr 6 (.mv (zt 0)), zc 7 94 [(zt 6)], za 2 (zt 7)])
  .ret)
def rc82 : RC := (.seq (.run [za 2 (zi 0)])
  (.seq (.cond (.const (.bool false))
  (.seq (.run [zr 3 (.mv (zt 0)), zr 4 (.cvi .u32 (zt 3)), zc 5 93 [(zt 4)], za 2 (zt 5)])
  .ret)
  .skip)
  rc82_0))
def ce82 : List (Nat × List Nat × List Nat) := []
def ro82 : List RO := [(.mv (zt 2))]
theorem ok82 : okFn Tryz.prog 82 8 ce82 = some (rc82, ro82) := by kernel_rfl
def rc88_0 : RC := (.seq (.block 1 (.seq (.run [zr 29 (.mv (zt 0)), zc 30 103 [(zt 29)], zr 28 (.mv (zt 30)), zr 31 (.ext 0 (zt 28)), zr 32 (.ext 1 (zt 28)), za 8 (zt 31), za 9 (zt 32)])
  (.seq (.run [zr 33 (.mv (zt 6)), zr 34 (.mv (zt 7)), zr 35 (.mv (zt 0)), zr 36 (.mv (zt 9)), zr 37 (.sls (zt 35) none (some (zt 36))), zr 38 (.ia 1 (zt 33) (zt 34)), ze (.st 1 (zt 38) (zt 37))])
  (.run [zr 39 (.mv (zt 0)), zr 40 (.mv (zt 9)), zr 41 (.sls (zt 39) (some (zt 40)) none), za 0 (zt 41)]))))
  (.run [zr 26 (.mv (zt 7)), zr 27 (.bin .add (zt 26) (zi 1)), za 7 (zt 27)]))
def rc88_1 : RC := (.seq (.seq (.run [zr 22 (.mv (zt 7)), zr 23 (.mv (zt 1)), zr 24 (.bin .sub (zt 23) (zi 1)), zr 25 (.bin .lss (zt 22) (zt 24))])
  (.cond (zt 25)
  .skip
  (.exit 0)))
  rc88_0)
def rc88_2 : RC := (.seq (.run [zr 49 (.mv (zt 6)), za 4 (zt 49)])
  .ret)
def rc88_3 : RC := (.seq (.seq (.run [zr 42 (.mv (zt 1)), zr 43 (.bin .gtr (zt 42) (zi 0))])
  (.cond (zt 43)
  (.run [zr 44 (.mv (zt 6)), zr 45 (.mv (zt 1)), zr 46 (.bin .sub (zt 45) (zi 1)), zr 47 (.mv (zt 0)), zr 48 (.ia 1 (zt 44) (zt 46)), ze (.st 1 (zt 48) (zt 47))])
  .skip))
  rc88_2)
def rc88_4 : RC := (.seq (.run [zr 20 (.mv (zt 1)), zf 21 (.mks 9 16 (.string ⟨#[]⟩) (zt 20) (zt 20)), za 6 (zt 21)])
  (.seq (.seq (.run [za 7 (zi 0)])
  (.block 0 (.loop rc88_1)))
  rc88_3))
def rc88 : RC := (.seq (.run [za 4 (.const (.slice none 0 0))])
  (.seq (.run [zr 10 (.mv (zt 0)), zc 11 102 [(zt 10)], za 5 (zt 11)])
  (.seq (.seq (.run [zr 12 (.mv (zt 1)), zr 13 (.bin .lss (zt 12) (zi 0)), zr 14 (.mv (zt 13)), zg 15 14 false (.mv (zt 1)), zg 16 14 false (.mv (zt 5)), zg 17 14 false (.bin .gtr (zt 15) (zt 16)), zr 18 (.pick (zt 14) (.const (.bool true)) (zt 17))])
  (.cond (zt 18)
  (.run [zr 19 (.mv (zt 5)), za 1 (zt 19)])
  .skip))
  rc88_4)))
def ce88 : List (Nat × List Nat × List Nat) := []
def ro88 : List RO := [(.mv (zt 4))]
theorem ok88 : okFn Tryz.prog 88 50 ce88 = some (rc88, ro88) := by kernel_rfl
def rc89_0 : RC := (.seq (.run [zr 26 (.mv (zt 5)), zr 27 (.bin .add (zt 26) (zi 1)), za 5 (zt 27)])
  (.run [zr 28 (.mv (zt 0)), zr 29 (.mv (zt 6)), zr 30 (.mv (zt 1)), zr 31 (.lens (zt 30)), zr 32 (.bin .add (zt 29) (zt 31)), zr 33 (.sls (zt 28) (some (zt 32)) none), za 0 (zt 33)]))
def rc89_1 : RC := (.block 1 (.seq (.run [zr 20 (.mv (zt 0)), zr 21 (.mv (zt 1)), zc 22 90 [(zt 20), (zt 21)], za 6 (zt 22)])
  (.seq (.seq (.run [zr 23 (.mv (zt 6)), zr 24 (.bin .eql (zt 23) (zi (-1)))])
  (.cond (zt 24)
  (.seq (.run [zr 25 (.mv (zt 5)), za 4 (zt 25)])
  .ret)
  .skip))
  rc89_0)))
def rc89_2 : RC := (.seq (.run [za 5 (zi 0)])
  (.block 0 (.loop rc89_1)))
def rc89_3 : RC := (.seq (.seq (.run [zr 13 (.mv (zt 1)), zr 14 (.lens (zt 13)), zr 15 (.bin .eql (zt 14) (zi 1))])
  (.cond (zt 15)
  (.seq (.run [zr 16 (.mv (zt 0)), zr 17 (.mv (zt 1)), zr 18 (.ixs (zt 17) (zi 0)), zc 19 104 [(zt 16), (zt 18)], za 4 (zt 19)])
  .ret)
  .skip))
  rc89_2)
def rc89 : RC := (.seq (.run [za 4 (zi 0)])
  (.seq (.seq (.run [zr 7 (.mv (zt 1)), zr 8 (.lens (zt 7)), zr 9 (.bin .eql (zt 8) (zi 0))])
  (.cond (zt 9)
  (.seq (.run [zr 10 (.mv (zt 0)), zc 11 102 [(zt 10)], zr 12 (.bin .add (zt 11) (zi 1)), za 4 (zt 12)])
  .ret)
  .skip))
  rc89_3))
def ce89 : List (Nat × List Nat × List Nat) := []
def ro89 : List RO := [(.mv (zt 4))]
theorem ok89 : okFn Tryz.prog 89 34 ce89 = some (rc89, ro89) := by kernel_rfl
def rc90 : RC := (.seq (.run [za 4 (zi 0)])
  (.seq (.run [zr 5 (.mv (zt 0)), zr 6 (.mv (zt 1)), zc 7 105 [(zt 5), (zt 6)], za 4 (zt 7)])
  .ret))
def ce90 : List (Nat × List Nat × List Nat) := []
def ro90 : List RO := [(.mv (zt 4))]
theorem ok90 : okFn Tryz.prog 90 8 ce90 = some (rc90, ro90) := by kernel_rfl
def rc91_0 : RC := (.seq (.run [zr 144 (.mv (zt 13)), zr 145 (.mv (zt 1)), zr 146 (.cvi .u64 (zt 145)), zr 147 (.bin .mul (zt 144) (zt 146)), za 13 (zt 147)])
  (.seq (.run [zr 148 (.mv (zt 13)), zr 149 (.mv (zt 16)), zr 150 (.cvi .u64 (zt 149)), zr 151 (.bin .add (zt 148) (zt 150)), za 17 (zt 151)])
  (.seq (.seq (.run [zr 152 (.mv (zt 17)), zr 153 (.mv (zt 13)), zr 154 (.bin .lss (zt 152) (zt 153)), zr 155 (.mv (zt 154)), zg 156 155 false (.mv (zt 17)), zg 157 155 false (.mv (zt 11)), zg 158 155 false (.bin .gtr (zt 156) (zt 157)), zr 159 (.pick (zt 155) (.const (.bool true)) (zt 158))])
  (.cond (zt 159)
  (.seq (.run [zr 160 (.mv (zt 11)), zr 161 (.mki 168 (zi 1)), za 6 (zt 160), za 7 (zt 161)])
  .ret)
  .skip))
  (.run [zr 162 (.mv (zt 17)), za 13 (zt 162)]))))
def rc91_1 : RC := (.seq (.seq (.run [zr 139 (.mv (zt 13)), zr 140 (.mv (zt 10)), zr 141 (.bin .geq (zt 139) (zt 140))])
  (.cond (zt 141)
  (.seq (.run [zr 142 (.mv (zt 11)), zr 143 (.mki 168 (zi 1)), za 6 (zt 142), za 7 (zt 143)])
  .ret)
  .skip))
  rc91_0)
def rc91_2 : RC := (.seq (.seq (.run [zr 134 (.mv (zt 16)), zr 135 (.mv (zt 1)), zr 136 (.cvi .u8 (zt 135)), zr 137 (.bin .geq (zt 134) (zt 136))])
  (.cond (zt 137)
  (.seq (.run [zr 138 (.mki 168 (zi 2)), za 6 (.const (.int .u64 0)), za 7 (zt 138)])
  .ret)
  .skip))
  rc91_1)
def rc91_3 : RC := (.seq (.block 4 (.seq (.run [zr 103 (.ia 1 (zt 99) (zt 101)), zr 104 (.ld (zt 103)), za 15 (zt 104)])
  (.seq (.run [za 16 (.const (.int .u8 0))])
  (.seq (.block 5 (.seq (.run [zr 107 (.mv (zt 15)), zr 108 (.bin .eql (zt 107) (.const (.int .u8 95))), zr 109 (.mv (zt 108)), zg 110 109 true (.mv (zt 8)), zr 111 (.pick (zt 109) (zt 110) (.const (.bool false))), za 106 (zt 111)])
  (.cond (zt 106)
  (.seq (.run [za 12 (.const (.bool true))])
  (.exit 4))
  (.seq (.run [zr 113 (.mv (zt 15)), zr 114 (.bin .leq (.const (.int .u8 48)) (zt 113)), zr 115 (.mv (zt 114)), zg 116 115 true (.mv (zt 15)), zg 117 115 true (.bin .leq (zt 116) (.const (.int .u8 57))), zr 118 (.pick (zt 115) (zt 117) (.const (.bool false))), za 112 (zt 118)])
  (.cond (zt 112)
  (.run [zr 119 (.mv (zt 15)), zr 120 (.bin .sub (zt 119) (.const (.int .u8 48))), za 16 (zt 120)])
  (.seq (.run [zr 122 (.mv (zt 15)), zc 123 106 [(zt 122)], zr 124 (.bin .leq (.const (.int .u8 97)) (zt 123)), zr 125 (.mv (zt 124)), zg 126 125 true (.mv (zt 15)), ⟨(some 127), (some (125, true)), (.c (.fn 106 [(zt 126)])), []⟩, zg 128 125 true (.bin .leq (zt 127) (.const (.int .u8 122))), zr 129 (.pick (zt 125) (zt 128) (.const (.bool false))), za 121 (zt 129)])
  (.cond (zt 121)
  (.run [zr 130 (.mv (zt 15)), zc 131 106 [(zt 130)], zr 132 (.bin .sub (zt 131) (.const (.int .u8 97))), zr 133 (.bin .add (zt 132) (.const (.int .u8 10))), za 16 (zt 133)])
  (.seq (.run [zr 105 (.mki 168 (zi 2)), za 6 (.const (.int .u64 0)), za 7 (zt 105)])
  .ret))))))))
  rc91_2))))
  (.run [zr 163 (.bin .add (zt 101) (zi 1)), zr 101 (.mv (zt 163))]))
def rc91_4 : RC := (.seq (.run [zr 102 (.bin .lss (zt 101) (zt 100))])
  (.seq (.cond (zt 102)
  .skip
  (.exit 3))
  rc91_3))
def rc91_5 : RC := (.seq (.run [zr 171 (.mv (zt 13)), za 6 (zt 171), za 7 (.const .nilIface)])
  .ret)
def rc91_6 : RC := (.seq (.seq (.run [zr 164 (.mv (zt 12)), zr 165 (.mv (zt 164)), zg 166 165 true (.mv (zt 9)), ⟨(some 167), (some (165, true)), (.c (.fn 107 [(zt 166)])), []⟩, zg 168 165 true (.not (zt 167)), zr 169 (.pick (zt 165) (zt 168) (.const (.bool false)))])
  (.cond (zt 169)
  (.seq (.run [zr 170 (.mki 168 (zi 2)), za 6 (.const (.int .u64 0)), za 7 (zt 170)])
  .ret)
  .skip))
  rc91_5)
def rc91_7 : RC := (.seq (.run [zr 94 (.mv (zt 2)), zr 95 (.cvi .u64 (zt 94)), zr 96 (.bin .shl (.const (.int .u64 1)) (zt 95)), zr 97 (.bin .sub (zt 96) (.const (.int .u64 1))), za 11 (zt 97)])
  (.seq (.run [za 12 (.const (.bool false))])
  (.seq (.run [za 13 (.const (.int .u64 0))])
  (.seq (.seq (.run [zr 98 (.mv (zt 0)), zf 99 (.s2b 5 (zt 98)), zr 100 (.lenl (zt 99)), zr 101 (.mv (zi 0))])
  (.block 3 (.loop rc91_4)))
  rc91_6))))
def rc91_8 : RC := (.seq (.run [za 10 (.const (.int .u64 0))])
  (.seq (.seq (.run [zr 85 (.mv (zt 1))])
  (.block 2 (.seq (.run [zr 91 (.bin .eql (zt 85) (zi 10)), za 90 (zt 91)])
  (.cond (zt 90)
  (.run [za 10 (.const (.int .u64 1844674407370955162))])
  (.seq (.run [zr 93 (.bin .eql (zt 85) (zi 16)), za 92 (zt 93)])
  (.cond (zt 92)
  (.run [za 10 (.const (.int .u64 1152921504606846976))])
  (.run [zr 86 (.mv (zt 1)), zr 87 (.cvi .u64 (zt 86)), zr 88 (.bin .quo (.const (.int .u64 18446744073709551615)) (zt 87)), zr 89 (.bin .add (zt 88) (.const (.int .u64 1))), za 10 (zt 89)])))))))
  rc91_7))
def rc91_9 : RC := (.seq (.seq (.run [zr 76 (.mv (zt 2)), zr 77 (.bin .eql (zt 76) (zi 0))])
  (.cond (zt 77)
  (.run [za 2 (zi 64)])
  (.seq (.run [zr 78 (.mv (zt 2)), zr 79 (.bin .lss (zt 78) (zi 0)), zr 80 (.mv (zt 79)), zg 81 80 false (.mv (zt 2)), zg 82 80 false (.bin .gtr (zt 81) (zi 64)), zr 83 (.pick (zt 80) (.const (.bool true)) (zt 82))])
  (.cond (zt 83)
  (.seq (.run [zr 84 (.mki 168 (zi 4)), za 6 (.const (.int .u64 0)), za 7 (zt 84)])
  .ret)
  .skip))))
  rc91_8)
def rc91_10 : RC := (.seq (.run [zr 21 (.mv (zt 1)), zr 22 (.bin .eql (zt 21) (zi 0)), za 8 (zt 22)])
  (.seq (.run [zr 23 (.mv (zt 0)), za 9 (zt 23)])
  (.seq (.block 0 (.seq (.run [zr 26 (.mv (zt 1)), zr 27 (.bin .leq (zi 2) (zt 26)), zr 28 (.mv (zt 27)), zg 29 28 true (.mv (zt 1)), zg 30 28 true (.bin .leq (zt 29) (zi 36)), zr 31 (.pick (zt 28) (zt 30) (.const (.bool false))), za 25 (zt 31)])
  (.cond (zt 25)
  .skip
  (.seq (.run [zr 33 (.mv (zt 1)), zr 34 (.bin .eql (zt 33) (zi 0)), za 32 (zt 34)])
  (.cond (zt 32)
  (.seq (.run [za 1 (zi 10)])
  (.seq (.run [zr 35 (.mv (zt 0)), zr 36 (.ixs (zt 35) (zi 0)), zr 37 (.bin .eql (zt 36) (.const (.int .u8 48)))])
  (.cond (zt 37)
  (.block 1 (.seq (.run [zr 41 (.mv (zt 0)), zr 42 (.lens (zt 41)), zr 43 (.bin .geq (zt 42) (zi 3)), zr 44 (.mv (zt 43)), zg 45 44 true (.mv (zt 0)), zg 46 44 true (.ixs (zt 45) (zi 1)), ⟨(some 47), (some (44, true)), (.c (.fn 106 [(zt 46)])), []⟩, zg 48 44 true (.bin .eql (zt 47) (.const (.int .u8 98))), zr 49 (.pick (zt 44) (zt 48) (.const (.bool false))), za 40 (zt 49)])
  (.cond (zt 40)
  (.seq (.run [za 1 (zi 2)])
  (.run [zr 50 (.mv (zt 0)), zr 51 (.sls (zt 50) (some (zi 2)) none), za 0 (zt 51)]))
  (.seq (.run [zr 53 (.mv (zt 0)), zr 54 (.lens (zt 53)), zr 55 (.bin .geq (zt 54) (zi 3)), zr 56 (.mv (zt 55)), zg 57 56 true (.mv (zt 0)), zg 58 56 true (.ixs (zt 57) (zi 1)), ⟨(some 59), (some (56, true)), (.c (.fn 106 [(zt 58)])), []⟩, zg 60 56 true (.bin .eql (zt 59) (.const (.int .u8 111))), zr 61 (.pick (zt 56) (zt 60) (.const (.bool false))), za 52 (zt 61)])
  (.cond (zt 52)
  (.seq (.run [za 1 (zi 8)])
  (.run [zr 62 (.mv (zt 0)), zr 63 (.sls (zt 62) (some (zi 2)) none), za 0 (zt 63)]))
  (.seq (.run [zr 65 (.mv (zt 0)), zr 66 (.lens (zt 65)), zr 67 (.bin .geq (zt 66) (zi 3)), zr 68 (.mv (zt 67)), zg 69 68 true (.mv (zt 0)), zg 70 68 true (.ixs (zt 69) (zi 1)), ⟨(some 71), (some (68, true)), (.c (.fn 106 [(zt 70)])), []⟩, zg 72 68 true (.bin .eql (zt 71) (.const (.int .u8 120))), zr 73 (.pick (zt 68) (zt 72) (.const (.bool false))), za 64 (zt 73)])
  (.cond (zt 64)
  (.seq (.run [za 1 (zi 16)])
  (.run [zr 74 (.mv (zt 0)), zr 75 (.sls (zt 74) (some (zi 2)) none), za 0 (zt 75)]))
  (.seq (.run [za 1 (zi 8)])
  (.run [zr 38 (.mv (zt 0)), zr 39 (.sls (zt 38) (some (zi 1)) none), za 0 (zt 39)])))))))))
  .skip)))
  (.seq (.run [zr 24 (.mki 168 (zi 3)), za 6 (.const (.int .u64 0)), za 7 (zt 24)])
  .ret))))))
  rc91_9)))
def rc91 : RC := (.seq (.run [za 6 (.const (.int .u64 0)), za 7 (.const .nilIface)])
  (.seq (.seq (.run [zr 18 (.mv (zt 0)), zr 19 (.bin .eql (zt 18) (.const (.string ⟨#[]⟩)))])
  (.cond (zt 19)
  (.seq (.run [zr 20 (.mki 168 (zi 2)), za 6 (.const (.int .u64 0)), za 7 (zt 20)])
  .ret)
  .skip))
  rc91_10))
def ce91 : List (Nat × List Nat × List Nat) := []
def ro91 : List RO := [(.mv (zt 6)), (.mv (zt 7))]
theorem ok91 : okFn Tryz.prog 91 172 ce91 = some (rc91, ro91) := by kernel_rfl
def rc92_0 : RC := (.seq (.run [zr 42 (.mv (zt 4)), za 10 (zt 42)])
  .ret)
def rc92 : RC := (.seq (.run [za 10 (.const .nilIface)])
  (.seq (.seq (.run [zr 11 (.mv (zt 4))])
  (.block 0 (.seq (.run [zr 13 (.mki 168 (zi 2)), zr 14 (.ieq false [2, 3, 5, 6, 12, 21, 22, 41, 50, 85, 100, 108, 110, 168, 198, 199, 201, 202] (zt 11) (zt 13)), za 12 (zt 14)])
  (.cond (zt 12)
  (.seq (.run [zr 15 (.mv (zt 0)), zr 16 (.mv (zt 1)), zc 17 108 [(zt 15), (zt 16)], zr 18 (.mki 170 (zt 17)), za 10 (zt 18)])
  .ret)
  (.seq (.run [zr 20 (.mki 168 (zi 1)), zr 21 (.ieq false [2, 3, 5, 6, 12, 21, 22, 41, 50, 85, 100, 108, 110, 168, 198, 199, 201, 202] (zt 11) (zt 20)), za 19 (zt 21)])
  (.cond (zt 19)
  (.seq (.run [zr 22 (.mv (zt 0)), zr 23 (.mv (zt 1)), zc 24 109 [(zt 22), (zt 23)], zr 25 (.mki 170 (zt 24)), za 10 (zt 25)])
  .ret)
  (.seq (.run [zr 27 (.mki 168 (zi 3)), zr 28 (.ieq false [2, 3, 5, 6, 12, 21, 22, 41, 50, 85, 100, 108, 110, 168, 198, 199, 201, 202] (zt 11) (zt 27)), za 26 (zt 28)])
  (.cond (zt 26)
  (.seq (.run [zr 29 (.mv (zt 0)), zr 30 (.mv (zt 1)), zr 31 (.mv (zt 2)), zc 32 110 [(zt 29), (zt 30), (zt 31)], zr 33 (.mki 170 (zt 32)), za 10 (zt 33)])
  .ret)
  (.seq (.run [zr 35 (.mki 168 (zi 4)), zr 36 (.ieq false [2, 3, 5, 6, 12, 21, 22, 41, 50, 85, 100, 108, 110, 168, 198, 199, 201, 202] (zt 11) (zt 35)), za 34 (zt 36)])
  (.cond (zt 34)
  (.seq (.run [zr 37 (.mv (zt 0)), zr 38 (.mv (zt 1)), zr 39 (.mv (zt 3)), zc 40 111 [(zt 37), (zt 38), (zt 39)], zr 41 (.mki 170 (zt 40)), za 10 (zt 41)])
  .ret)
  .skip))))))))))
  rc92_0))
def ce92 : List (Nat × List Nat × List Nat) := []
def ro92 : List RO := [(.mv (zt 10))]
theorem ok92 : okFn Tryz.prog 92 43 ce92 = some (rc92, ro92) := by kernel_rfl
def rc93_0 : RC := (.seq (.run [zr 5 (.mv (zt 0)), zr 6 (.mv (zt 0)), zr 7 (.neg (zt 6)), zr 8 (.bin .and (zt 5) (zt 7)), zr 9 (.bin .mul (zt 8) (.const (.int .u32 125613361))), zr 10 (.bin .shr (zt 9) (.const (.int .u64 27))), zr 11 (.iaa 32 1 (.global 1) (zt 10)), zr 12 (.ld (zt 11)), zr 13 (.cvi .i64 (zt 12)), za 2 (zt 13)])
  .ret)
def rc93 : RC := (.seq (.run [za 2 (zi 0)])
  (.seq (.seq (.run [zr 3 (.mv (zt 0)), zr 4 (.bin .eql (zt 3) (.const (.int .u32 0)))])
  (.cond (zt 4)
  (.seq (.run [za 2 (zi 32)])
  .ret)
  .skip))
  rc93_0))
def ce93 : List (Nat × List Nat × List Nat) := []
def ro93 : List RO := [(.mv (zt 2))]
theorem ok93 : okFn Tryz.prog 93 14 ce93 = some (rc93, ro93) := by kernel_rfl
def rc94_0 : RC := (.seq (.run [zr 5 (.mv (zt 0)), zr 6 (.mv (zt 0)), zr 7 (.neg (zt 6)), zr 8 (.bin .and (zt 5) (zt 7)), zr 9 (.bin .mul (zt 8) (.const (.int .u64 285870213051353865))), zr 10 (.bin .shr (zt 9) (.const (.int .u64 58))), zr 11 (.iaa 64 1 (.global 2) (zt 10)), zr 12 (.ld (zt 11)), zr 13 (.cvi .i64 (zt 12)), za 2 (zt 13)])
  .ret)
def rc94 : RC := (.seq (.run [za 2 (zi 0)])
  (.seq (.seq (.run [zr 3 (.mv (zt 0)), zr 4 (.bin .eql (zt 3) (.const (.int .u64 0)))])
  (.cond (zt 4)
  (.seq (.run [za 2 (zi 64)])
  .ret)
  .skip))
  rc94_0))
def ce94 : List (Nat × List Nat × List Nat) := []
def ro94 : List RO := [(.mv (zt 2))]
theorem ok94 : okFn Tryz.prog 94 14 ce94 = some (rc94, ro94) := by kernel_rfl
def rc102_0 : RC := (.block 1 (.run [zr 7 (.mv (zt 2)), zr 8 (.bin .add (zt 7) (zi 1)), za 2 (zt 8)]))
def rc102_1 : RC := (.seq (.run [⟨(some 5), none, .bad, []⟩, zr 6 (.ext 0 (zt 5))])
  (.seq (.cond (zt 6)
  .skip
  (.exit 0))
  rc102_0))
def rc102_2 : RC := (.seq (.run [zr 9 (.mv (zt 2)), za 2 (zt 9)])
  .ret)
def rc102 : RC := (.seq (.run [za 2 (zi 0)])
  (.seq (.seq (.run [zr 3 (.mv (zt 0)), ⟨(some 4), none, .bad, []⟩])
  (.block 0 (.loop rc102_1)))
  rc102_2))
def ce102 : List (Nat × List Nat × List Nat) := []
def ro102 : List RO := [(.mv (zt 2))]
theorem ok102 : okFn Tryz.prog 102 10 ce102 = some (rc102, ro102) := by kernel_rfl
def rc103 : RC := (.seq (.run [za 2 (.const (.int .i32 0)), za 3 (zi 0)])
  (.seq (.seq (.run [zr 4 (.mv (zt 0)), zr 5 (.bin .neq (zt 4) (.const (.string ⟨#[]⟩))), zr 6 (.mv (zt 5)), zg 7 6 true (.mv (zt 0)), zg 8 6 true (.ixs (zt 7) (zi 0)), zg 9 6 true (.bin .lss (zt 8) (.const (.int .u8 128))), zr 10 (.pick (zt 6) (zt 9) (.const (.bool false)))])
  (.cond (zt 10)
  (.seq (.run [zr 11 (.mv (zt 0)), zr 12 (.ixs (zt 11) (zi 0)), zr 13 (.cvi .i32 (zt 12)), za 2 (zt 13), za 3 (zi 1)])
  .ret)
  (.run [zr 15 (.mv (zt 0)), zc 16 116 [(zt 15)], zr 14 (.mv (zt 16)), zr 17 (.ext 0 (zt 14)), zr 18 (.ext 1 (zt 14)), za 2 (zt 17), za 3 (zt 18)])))
  .ret))
def ce103 : List (Nat × List Nat × List Nat) := []
def ro103 : List RO := [(.mv (zt 2)), (.mv (zt 3))]
theorem ok103 : okFn Tryz.prog 103 19 ce103 = some (rc103, ro103) := by kernel_rfl
def rc105_0 : RC := (.seq (.run [za 4 (zi (-1))])
  .ret)
def rc105_1 : RC := (.seq (.run [zr 140 (.mv (zt 8)), zr 141 (.mv (zt 13)), zr 142 (.bin .add (zt 140) (zt 141)), za 4 (zt 142)])
  .ret)
def rc105_2 : RC := (.seq (.run [zr 95 (.mv (zt 8)), zr 96 (.bin .add (zt 95) (zi 1)), za 8 (zt 96)])
  (.seq (.run [zr 97 (.mv (zt 10)), zr 98 (.bin .add (zt 97) (zi 1)), za 10 (zt 98)])
  (.seq (.run [zr 99 (.mv (zt 5)), zr 100 (.ld (.global 3)), zr 101 (.bin .leq (zt 99) (zt 100)), zr 102 (.mv (zt 101)), zg 103 102 true (.mv (zt 10)), zg 104 102 true (.mv (zt 8)), ⟨(some 105), (some (102, true)), (.c (.fn 119 [(zt 104)])), []⟩, zg 106 102 true (.bin .gtr (zt 103) (zt 105)), zr 107 (.pick (zt 102) (zt 106) (.const (.bool false)))])
  (.cond (zt 107)
  (.seq (.run [zr 108 (.mv (zt 0)), zr 109 (.mv (zt 8)), zr 110 (.sls (zt 108) (some (zt 109)) none), zr 111 (.mv (zt 1)), zc 112 118 [(zt 110), (zt 111)], za 12 (zt 112)])
  (.seq (.seq (.run [zr 113 (.mv (zt 12)), zr 114 (.bin .geq (zt 113) (zi 0))])
  (.cond (zt 114)
  (.seq (.run [zr 115 (.mv (zt 12)), zr 116 (.mv (zt 8)), zr 117 (.bin .add (zt 115) (zt 116)), za 4 (zt 117)])
  .ret)
  .skip))
  rc105_0))
  (.seq (.run [zr 118 (.mv (zt 5)), zr 119 (.ld (.global 3)), zr 120 (.bin .gtr (zt 118) (zt 119)), zr 121 (.mv (zt 120)), zg 122 121 true (.mv (zt 10)), zg 123 121 true (.mv (zt 8)), zg 124 121 true (.bin .shr (zt 123) (.const (.int .u64 4))), zg 125 121 true (.bin .add (zi 4) (zt 124)), zg 126 121 true (.bin .geq (zt 122) (zt 125)), zr 127 (.pick (zt 121) (zt 126) (.const (.bool false))), zr 128 (.mv (zt 127)), zg 129 128 true (.mv (zt 8)), zg 130 128 true (.mv (zt 9)), zg 131 128 true (.bin .lss (zt 129) (zt 130)), zr 132 (.pick (zt 128) (zt 131) (.const (.bool false)))])
  (.cond (zt 132)
  (.seq (.run [zr 133 (.mv (zt 0)), zr 134 (.mv (zt 8)), zr 135 (.sls (zt 133) (some (zt 134)) none), zr 136 (.mv (zt 1)), zc 137 120 [(zt 135), (zt 136)], za 13 (zt 137)])
  (.seq (.seq (.run [zr 138 (.mv (zt 13)), zr 139 (.bin .lss (zt 138) (zi 0))])
  (.cond (zt 139)
  (.seq (.run [za 4 (zi (-1))])
  .ret)
  .skip))
  rc105_1))
  .skip))))))
def rc105_3 : RC := (.seq (.seq (.run [zr 78 (.mv (zt 0)), zr 79 (.mv (zt 8)), zr 80 (.bin .add (zt 79) (zi 1)), zr 81 (.ixs (zt 78) (zt 80)), zr 82 (.mv (zt 7)), zr 83 (.bin .eql (zt 81) (zt 82)), zr 84 (.mv (zt 83)), zg 85 84 true (.mv (zt 0)), zg 86 84 true (.mv (zt 8)), zg 87 84 true (.mv (zt 8)), zg 88 84 true (.mv (zt 5)), zg 89 84 true (.bin .add (zt 87) (zt 88)), zg 90 84 true (.sls (zt 85) (some (zt 86)) (some (zt 89))), zg 91 84 true (.mv (zt 1)), zg 92 84 true (.bin .eql (zt 90) (zt 91)), zr 93 (.pick (zt 84) (zt 92) (.const (.bool false)))])
  (.cond (zt 93)
  (.seq (.run [zr 94 (.mv (zt 8)), za 4 (zt 94)])
  .ret)
  .skip))
  rc105_2)
def rc105_4 : RC := (.block 2 (.seq (.seq (.run [zr 60 (.mv (zt 0)), zr 61 (.mv (zt 8)), zr 62 (.ixs (zt 60) (zt 61)), zr 63 (.mv (zt 6)), zr 64 (.bin .neq (zt 62) (zt 63))])
  (.cond (zt 64)
  (.seq (.run [zr 65 (.mv (zt 0)), zr 66 (.mv (zt 8)), zr 67 (.bin .add (zt 66) (zi 1)), zr 68 (.mv (zt 9)), zr 69 (.sls (zt 65) (some (zt 67)) (some (zt 68))), zr 70 (.mv (zt 6)), zc 71 117 [(zt 69), (zt 70)], za 11 (zt 71)])
  (.seq (.seq (.run [zr 72 (.mv (zt 11)), zr 73 (.bin .lss (zt 72) (zi 0))])
  (.cond (zt 73)
  (.seq (.run [za 4 (zi (-1))])
  .ret)
  .skip))
  (.run [zr 74 (.mv (zt 8)), zr 75 (.mv (zt 11)), zr 76 (.bin .add (zt 75) (zi 1)), zr 77 (.bin .add (zt 74) (zt 76)), za 8 (zt 77)])))
  .skip))
  rc105_3))
def rc105_5 : RC := (.seq (.seq (.run [zr 57 (.mv (zt 8)), zr 58 (.mv (zt 9)), zr 59 (.bin .lss (zt 57) (zt 58))])
  (.cond (zt 59)
  .skip
  (.exit 1)))
  rc105_4)
def rc105_6 : RC := (.seq (.run [zr 48 (.mv (zt 1)), zr 49 (.ixs (zt 48) (zi 0)), za 6 (zt 49)])
  (.seq (.run [zr 50 (.mv (zt 1)), zr 51 (.ixs (zt 50) (zi 1)), za 7 (zt 51)])
  (.seq (.run [za 8 (zi 0)])
  (.seq (.run [zr 52 (.mv (zt 0)), zr 53 (.lens (zt 52)), zr 54 (.mv (zt 5)), zr 55 (.bin .sub (zt 53) (zt 54)), zr 56 (.bin .add (zt 55) (zi 1)), za 9 (zt 56)])
  (.seq (.run [za 10 (zi 0)])
  (.seq (.block 1 (.loop rc105_5))
  rc105_0))))))
def rc105 : RC := (.seq (.run [za 4 (zi 0)])
  (.seq (.run [zr 14 (.mv (zt 1)), zr 15 (.lens (zt 14)), za 5 (zt 15)])
  (.seq (.block 0 (.seq (.run [zr 17 (.mv (zt 5)), zr 18 (.bin .eql (zt 17) (zi 0)), zr 19 (.mv (zt 18)), zg 20 19 false (.mv (zt 1)), zg 21 19 false (.mv (zt 0)), zg 22 19 false (.bin .eql (zt 20) (zt 21)), zr 23 (.pick (zt 19) (.const (.bool true)) (zt 22)), za 16 (zt 23)])
  (.cond (zt 16)
  (.seq (.run [za 4 (zi 0)])
  .ret)
  (.seq (.run [zr 25 (.mv (zt 5)), zr 26 (.bin .eql (zt 25) (zi 1)), za 24 (zt 26)])
  (.cond (zt 24)
  (.seq (.run [zr 27 (.mv (zt 0)), zr 28 (.mv (zt 1)), zr 29 (.ixs (zt 28) (zi 0)), zc 30 117 [(zt 27), (zt 29)], za 4 (zt 30)])
  .ret)
  (.seq (.run [zr 32 (.mv (zt 5)), zr 33 (.mv (zt 0)), zr 34 (.lens (zt 33)), zr 35 (.bin .geq (zt 32) (zt 34)), za 31 (zt 35)])
  (.cond (zt 31)
  (.seq (.run [za 4 (zi (-1))])
  .ret)
  (.seq (.run [zr 37 (.mv (zt 5)), zr 38 (.ld (.global 3)), zr 39 (.bin .leq (zt 37) (zt 38)), zr 40 (.mv (zt 39)), zg 41 40 true (.mv (zt 0)), zg 42 40 true (.lens (zt 41)), zg 43 40 true (.bin .leq (zt 42) (zi 64)), zr 44 (.pick (zt 40) (zt 43) (.const (.bool false))), za 36 (zt 44)])
  (.cond (zt 36)
  (.seq (.run [zr 45 (.mv (zt 0)), zr 46 (.mv (zt 1)), zc 47 118 [(zt 45), (zt 46)], za 4 (zt 47)])
  .ret)
  .skip)))))))))
  rc105_6)))
def ce105 : List (Nat × List Nat × List Nat) := []
def ro105 : List RO := [(.mv (zt 4))]
theorem ok105 : okFn Tryz.prog 105 143 ce105 = some (rc105, ro105) := by kernel_rfl
def rc106 : RC := (.seq (.run [za 2 (.const (.int .u8 0))])
  (.seq (.run [zr 3 (.mv (zt 0)), zr 4 (.bin .or (zt 3) (.const (.int .u8 32))), za 2 (zt 4)])
  .ret))
def ce106 : List (Nat × List Nat × List Nat) := []
def ro106 : List RO := [(.mv (zt 2))]
theorem ok106 : okFn Tryz.prog 106 5 ce106 = some (rc106, ro106) := by kernel_rfl
def rc107_0 : RC := (.seq (.run [za 3 (.const (.int .i32 95))])
  (.exit 1))
def rc107_1 : RC := (.seq (.seq (.run [zr 90 (.mv (zt 3)), zr 91 (.bin .eql (zt 90) (.const (.int .i32 95)))])
  (.cond (zt 91)
  (.seq (.run [za 2 (.const (.bool false))])
  .ret)
  .skip))
  (.run [za 3 (.const (.int .i32 33))]))
def rc107_2 : RC := (.seq (.seq (.run [zr 84 (.mv (zt 0)), zr 85 (.mv (zt 4)), zr 86 (.ixs (zt 84) (zt 85)), zr 87 (.bin .eql (zt 86) (.const (.int .u8 95)))])
  (.cond (zt 87)
  (.seq (.seq (.run [zr 88 (.mv (zt 3)), zr 89 (.bin .neq (zt 88) (.const (.int .i32 48)))])
  (.cond (zt 89)
  (.seq (.run [za 2 (.const (.bool false))])
  .ret)
  .skip))
  rc107_0)
  .skip))
  rc107_1)
def rc107_3 : RC := (.seq (.block 1 (.seq (.seq (.run [zr 57 (.mv (zt 0)), zr 58 (.mv (zt 4)), zr 59 (.ixs (zt 57) (zt 58)), zr 60 (.bin .leq (.const (.int .u8 48)) (zt 59)), zr 61 (.mv (zt 60)), zg 62 61 true (.mv (zt 0)), zg 63 61 true (.mv (zt 4)), zg 64 61 true (.ixs (zt 62) (zt 63)), zg 65 61 true (.bin .leq (zt 64) (.const (.int .u8 57))), zr 66 (.pick (zt 61) (zt 65) (.const (.bool false))), zr 67 (.mv (zt 66)), zg 68 67 false (.mv (zt 5)), zg 69 67 false (.mv (zt 68)), zg 70 69 true (.mv (zt 0)), zg 71 69 true (.mv (zt 4)), zg 72 69 true (.ixs (zt 70) (zt 71)), ⟨(some 73), (some (69, true)), (.c (.fn 106 [(zt 72)])), []⟩, zg 74 69 true (.bin .leq (.const (.int .u8 97)) (zt 73)), zg 75 67 false (.pick (zt 69) (zt 74) (.const (.bool false))), zg 76 67 false (.mv (zt 75)), zg 77 76 true (.mv (zt 0)), zg 78 76 true (.mv (zt 4)), zg 79 76 true (.ixs (zt 77) (zt 78)), ⟨(some 80), (some (76, true)), (.c (.fn 106 [(zt 79)])), []⟩, zg 81 76 true (.bin .leq (zt 80) (.const (.int .u8 102))), zg 82 67 false (.pick (zt 76) (zt 81) (.const (.bool false))), zr 83 (.pick (zt 67) (.const (.bool true)) (zt 82))])
  (.cond (zt 83)
  (.seq (.run [za 3 (.const (.int .i32 48))])
  (.exit 1))
  .skip))
  rc107_2))
  (.run [zr 55 (.mv (zt 4)), zr 56 (.bin .add (zt 55) (zi 1)), za 4 (zt 56)]))
def rc107_4 : RC := (.seq (.seq (.run [zr 51 (.mv (zt 4)), zr 52 (.mv (zt 0)), zr 53 (.lens (zt 52)), zr 54 (.bin .lss (zt 51) (zt 53))])
  (.cond (zt 54)
  .skip
  (.exit 0)))
  rc107_3)
def rc107_5 : RC := (.seq (.run [zr 92 (.mv (zt 3)), zr 93 (.bin .neq (zt 92) (.const (.int .i32 95))), za 2 (zt 93)])
  .ret)
def rc107_6 : RC := (.seq (.block 0 (.loop rc107_4))
  rc107_5)
def rc107_7 : RC := (.seq (.run [za 5 (.const (.bool false))])
  (.seq (.seq (.run [zr 21 (.mv (zt 0)), zr 22 (.lens (zt 21)), zr 23 (.bin .geq (zt 22) (zi 2)), zr 24 (.mv (zt 23)), zg 25 24 true (.mv (zt 0)), zg 26 24 true (.ixs (zt 25) (zi 0)), zg 27 24 true (.bin .eql (zt 26) (.const (.int .u8 48))), zr 28 (.pick (zt 24) (zt 27) (.const (.bool false))), zr 29 (.mv (zt 28)), zg 30 29 true (.mv (zt 0)), zg 31 29 true (.ixs (zt 30) (zi 1)), ⟨(some 32), (some (29, true)), (.c (.fn 106 [(zt 31)])), []⟩, zg 33 29 true (.bin .eql (zt 32) (.const (.int .u8 98))), zg 34 29 true (.mv (zt 33)), zg 35 34 false (.mv (zt 0)), zg 36 34 false (.ixs (zt 35) (zi 1)), ⟨(some 37), (some (34, false)), (.c (.fn 106 [(zt 36)])), []⟩, zg 38 34 false (.bin .eql (zt 37) (.const (.int .u8 111))), zg 39 29 true (.pick (zt 34) (.const (.bool true)) (zt 38)), zg 40 29 true (.mv (zt 39)), zg 41 40 false (.mv (zt 0)), zg 42 40 false (.ixs (zt 41) (zi 1)), ⟨(some 43), (some (40, false)), (.c (.fn 106 [(zt 42)])), []⟩, zg 44 40 false (.bin .eql (zt 43) (.const (.int .u8 120))), zg 45 29 true (.pick (zt 40) (.const (.bool true)) (zt 44)), zr 46 (.pick (zt 29) (zt 45) (.const (.bool false)))])
  (.cond (zt 46)
  (.seq (.run [za 4 (zi 2)])
  (.seq (.run [za 3 (.const (.int .i32 48))])
  (.run [zr 47 (.mv (zt 0)), zr 48 (.ixs (zt 47) (zi 1)), zc 49 106 [(zt 48)], zr 50 (.bin .eql (zt 49) (.const (.int .u8 120))), za 5 (zt 50)])))
  .skip))
  rc107_6))
def rc107 : RC := (.seq (.run [za 2 (.const (.bool false))])
  (.seq (.run [za 3 (.const (.int .i32 94))])
  (.seq (.run [za 4 (zi 0)])
  (.seq (.seq (.run [zr 6 (.mv (zt 0)), zr 7 (.lens (zt 6)), zr 8 (.bin .geq (zt 7) (zi 1)), zr 9 (.mv (zt 8)), zg 10 9 true (.mv (zt 0)), zg 11 9 true (.ixs (zt 10) (zi 0)), zg 12 9 true (.bin .eql (zt 11) (.const (.int .u8 45))), zg 13 9 true (.mv (zt 12)), zg 14 13 false (.mv (zt 0)), zg 15 13 false (.ixs (zt 14) (zi 0)), zg 16 13 false (.bin .eql (zt 15) (.const (.int .u8 43))), zg 17 9 true (.pick (zt 13) (.const (.bool true)) (zt 16)), zr 18 (.pick (zt 9) (zt 17) (.const (.bool false)))])
  (.cond (zt 18)
  (.run [zr 19 (.mv (zt 0)), zr 20 (.sls (zt 19) (some (zi 1)) none), za 0 (zt 20)])
  .skip))
  rc107_7))))
def ce107 : List (Nat × List Nat × List Nat) := []
def ro107 : List RO := [(.mv (zt 2))]
theorem ok107 : okFn Tryz.prog 107 94 ce107 = some (rc107, ro107) := by kernel_rfl
def rc108 : RC := (.seq (.run [za 4 (.const (.pointer none))])
  (.seq (.run [zr 5 (.mv (zt 0)), zr 6 (.mv (zt 1)), zr 8 (.ld (.global 4)), ⟨(some 7), none, (.c (.fn 121 [(zt 6)])), [(8, none, .ld (.global 4))]⟩, zr 9 (.bld [(.string ⟨#[]⟩), (.string ⟨#[]⟩), .nilIface] [(0, 1, (zt 5)), (1, 1, (zt 7)), (2, 1, (zt 8))]), zf 10 (.bx 178 (zt 9)), za 4 (zt 10)])
  .ret))
def ce108 : List (Nat × List Nat × List Nat) := [(1, [0, 1, 3, 2, 4, 5, 6], [0, 0, 2, 0, 15, 31, 63])]
def ro108 : List RO := [(.mv (zt 4))]
theorem ok108 : okFn Tryz.prog 108 11 ce108 = some (rc108, ro108) := by kernel_rfl
def rc109 : RC := (.seq (.run [za 4 (.const (.pointer none))])
  (.seq (.run [zr 5 (.mv (zt 0)), zr 6 (.mv (zt 1)), zr 8 (.ld (.global 5)), ⟨(some 7), none, (.c (.fn 121 [(zt 6)])), [(8, none, .ld (.global 5))]⟩, zr 9 (.bld [(.string ⟨#[]⟩), (.string ⟨#[]⟩), .nilIface] [(0, 1, (zt 5)), (1, 1, (zt 7)), (2, 1, (zt 8))]), zf 10 (.bx 178 (zt 9)), za 4 (zt 10)])
  .ret))
def ce109 : List (Nat × List Nat × List Nat) := [(1, [0, 1, 3, 2, 4, 5, 6], [0, 0, 2, 0, 15, 31, 63])]
def ro109 : List RO := [(.mv (zt 4))]
theorem ok109 : okFn Tryz.prog 109 11 ce109 = some (rc109, ro109) := by kernel_rfl
def rc110 : RC := (.seq (.run [za 6 (.const (.pointer none))])
  (.seq (.run [zr 7 (.mv (zt 0)), zr 8 (.mv (zt 1)), zc 9 121 [(zt 8)], zr 10 (.mv (zt 2)), zc 11 123 [(zt 10)], zr 12 (.bin .add (.const (.string ⟨#[105, 110, 118, 97, 108, 105, 100, 32, 98, 97, 115, 101, 32]⟩)) (zt 11)), zc 13 122 [(zt 12)], zr 14 (.bld [(.string ⟨#[]⟩), (.string ⟨#[]⟩), .nilIface] [(0, 1, (zt 7)), (1, 1, (zt 9)), (2, 1, (zt 13))]), zf 15 (.bx 178 (zt 14)), za 6 (zt 15)])
  .ret))
def ce110 : List (Nat × List Nat × List Nat) := []
def ro110 : List RO := [(.mv (zt 6))]
theorem ok110 : okFn Tryz.prog 110 16 ce110 = some (rc110, ro110) := by kernel_rfl
def rc111 : RC := (.seq (.run [za 6 (.const (.pointer none))])
  (.seq (.run [zr 7 (.mv (zt 0)), zr 8 (.mv (zt 1)), zc 9 121 [(zt 8)], zr 10 (.mv (zt 2)), zc 11 123 [(zt 10)], zr 12 (.bin .add (.const (.string ⟨#[105, 110, 118, 97, 108, 105, 100, 32, 98, 105, 116, 32, 115, 105, 122, 101, 32]⟩)) (zt 11)), zc 13 122 [(zt 12)], zr 14 (.bld [(.string ⟨#[]⟩), (.string ⟨#[]⟩), .nilIface] [(0, 1, (zt 7)), (1, 1, (zt 9)), (2, 1, (zt 13))]), zf 15 (.bx 178 (zt 14)), za 6 (zt 15)])
  .ret))
def ce111 : List (Nat × List Nat × List Nat) := []
def ro111 : List RO := [(.mv (zt 6))]
theorem ok111 : okFn Tryz.prog 111 16 ce111 = some (rc111, ro111) := by kernel_rfl
def rc116_0 : RC := (.seq (.run [zr 99 (.mv (zt 5)), zr 100 (.bin .and (zt 99) (.const (.int .u8 7))), zr 101 (.cvi .i32 (zt 100)), zr 102 (.bin .shl (zt 101) (.const (.int .u64 18))), zr 103 (.mv (zt 10)), zr 104 (.bin .and (zt 103) (.const (.int .u8 63))), zr 105 (.cvi .i32 (zt 104)), zr 106 (.bin .shl (zt 105) (.const (.int .u64 12))), zr 107 (.bin .or (zt 102) (zt 106)), zr 108 (.mv (zt 11)), zr 109 (.bin .and (zt 108) (.const (.int .u8 63))), zr 110 (.cvi .i32 (zt 109)), zr 111 (.bin .shl (zt 110) (.const (.int .u64 6))), zr 112 (.bin .or (zt 107) (zt 111)), zr 113 (.mv (zt 12)), zr 114 (.bin .and (zt 113) (.const (.int .u8 63))), zr 115 (.cvi .i32 (zt 114)), zr 116 (.bin .or (zt 112) (zt 115)), za 2 (zt 116), za 3 (zi 4)])
  .ret)
def rc116_1 : RC := (.seq (.run [zr 91 (.mv (zt 0)), zr 92 (.ixs (zt 91) (zi 3)), za 12 (zt 92)])
  (.seq (.seq (.run [zr 93 (.mv (zt 12)), zr 94 (.bin .lss (zt 93) (.const (.int .u8 128))), zr 95 (.mv (zt 94)), zg 96 95 false (.mv (zt 12)), zg 97 95 false (.bin .lss (.const (.int .u8 191)) (zt 96)), zr 98 (.pick (zt 95) (.const (.bool true)) (zt 97))])
  (.cond (zt 98)
  (.seq (.run [za 2 (.const (.int .i32 65533)), za 3 (zi 1)])
  .ret)
  .skip))
  rc116_0))
def rc116_2 : RC := (.seq (.seq (.run [zr 76 (.mv (zt 8)), zr 77 (.bin .leq (zt 76) (zi 3))])
  (.cond (zt 77)
  (.seq (.run [zr 78 (.mv (zt 5)), zr 79 (.bin .and (zt 78) (.const (.int .u8 15))), zr 80 (.cvi .i32 (zt 79)), zr 81 (.bin .shl (zt 80) (.const (.int .u64 12))), zr 82 (.mv (zt 10)), zr 83 (.bin .and (zt 82) (.const (.int .u8 63))), zr 84 (.cvi .i32 (zt 83)), zr 85 (.bin .shl (zt 84) (.const (.int .u64 6))), zr 86 (.bin .or (zt 81) (zt 85)), zr 87 (.mv (zt 11)), zr 88 (.bin .and (zt 87) (.const (.int .u8 63))), zr 89 (.cvi .i32 (zt 88)), zr 90 (.bin .or (zt 86) (zt 89)), za 2 (zt 90), za 3 (zi 3)])
  .ret)
  .skip))
  rc116_1)
def rc116_3 : RC := (.seq (.run [zr 68 (.mv (zt 0)), zr 69 (.ixs (zt 68) (zi 2)), za 11 (zt 69)])
  (.seq (.seq (.run [zr 70 (.mv (zt 11)), zr 71 (.bin .lss (zt 70) (.const (.int .u8 128))), zr 72 (.mv (zt 71)), zg 73 72 false (.mv (zt 11)), zg 74 72 false (.bin .lss (.const (.int .u8 191)) (zt 73)), zr 75 (.pick (zt 72) (.const (.bool true)) (zt 74))])
  (.cond (zt 75)
  (.seq (.run [za 2 (.const (.int .i32 65533)), za 3 (zi 1)])
  .ret)
  .skip))
  rc116_2))
def rc116_4 : RC := (.seq (.seq (.run [zr 58 (.mv (zt 8)), zr 59 (.bin .leq (zt 58) (zi 2))])
  (.cond (zt 59)
  (.seq (.run [zr 60 (.mv (zt 5)), zr 61 (.bin .and (zt 60) (.const (.int .u8 31))), zr 62 (.cvi .i32 (zt 61)), zr 63 (.bin .shl (zt 62) (.const (.int .u64 6))), zr 64 (.mv (zt 10)), zr 65 (.bin .and (zt 64) (.const (.int .u8 63))), zr 66 (.cvi .i32 (zt 65)), zr 67 (.bin .or (zt 63) (zt 66)), za 2 (zt 67), za 3 (zi 2)])
  .ret)
  .skip))
  rc116_3)
def rc116_5 : RC := (.seq (.run [zr 46 (.mv (zt 0)), zr 47 (.ixs (zt 46) (zi 1)), za 10 (zt 47)])
  (.seq (.seq (.run [zr 48 (.mv (zt 10)), zr 49 (.fa 0 (zt 9)), zr 50 (.ld (zt 49)), zr 51 (.bin .lss (zt 48) (zt 50)), zr 52 (.mv (zt 51)), zg 53 52 false (.fa 1 (zt 9)), zg 54 52 false (.ld (zt 53)), zg 55 52 false (.mv (zt 10)), zg 56 52 false (.bin .lss (zt 54) (zt 55)), zr 57 (.pick (zt 52) (.const (.bool true)) (zt 56))])
  (.cond (zt 57)
  (.seq (.run [za 2 (.const (.int .i32 65533)), za 3 (zi 1)])
  .ret)
  .skip))
  rc116_4))
def rc116_6 : RC := (.seq (.run [zr 36 (.mv (zt 6)), zr 37 (.bin .and (zt 36) (.const (.int .u8 7))), zr 38 (.cvi .i64 (zt 37)), za 8 (zt 38)])
  (.seq (.run [zr 39 (.mv (zt 6)), zr 40 (.bin .shr (zt 39) (.const (.int .u64 4))), zr 41 (.iaa 16 2 (.global 7) (zt 40)), zr 42 (.ldn 2 (zt 41)), zf 9 (.al [(.int .u8 0), (.int .u8 0)] 183), ze (.st 2 (zt 9) (zt 42))])
  (.seq (.seq (.run [zr 43 (.mv (zt 4)), zr 44 (.mv (zt 8)), zr 45 (.bin .lss (zt 43) (zt 44))])
  (.cond (zt 45)
  (.seq (.run [za 2 (.const (.int .i32 65533)), za 3 (zi 1)])
  .ret)
  .skip))
  rc116_5)))
def rc116_7 : RC := (.seq (.run [zr 17 (.mv (zt 0)), zr 18 (.ixs (zt 17) (zi 0)), za 5 (zt 18)])
  (.seq (.run [zr 19 (.mv (zt 5)), zr 20 (.iaa 256 1 (.global 6) (zt 19)), zr 21 (.ld (zt 20)), za 6 (zt 21)])
  (.seq (.seq (.run [zr 22 (.mv (zt 6)), zr 23 (.bin .geq (zt 22) (.const (.int .u8 240)))])
  (.cond (zt 23)
  (.seq (.run [zr 24 (.mv (zt 6)), zr 25 (.cvi .i32 (zt 24)), zr 26 (.bin .shl (zt 25) (.const (.int .u64 31))), zr 27 (.bin .shr (zt 26) (.const (.int .u64 31))), za 7 (zt 27)])
  (.seq (.run [zr 28 (.mv (zt 0)), zr 29 (.ixs (zt 28) (zi 0)), zr 30 (.cvi .i32 (zt 29)), zr 31 (.mv (zt 7)), zr 32 (.bin .andNot (zt 30) (zt 31)), zr 33 (.mv (zt 7)), zr 34 (.bin .and (.const (.int .i32 65533)) (zt 33)), zr 35 (.bin .or (zt 32) (zt 34)), za 2 (zt 35), za 3 (zi 1)])
  .ret))
  .skip))
  rc116_6)))
def rc116 : RC := (.seq (.run [za 2 (.const (.int .i32 0)), za 3 (zi 0)])
  (.seq (.run [zr 13 (.mv (zt 0)), zr 14 (.lens (zt 13)), za 4 (zt 14)])
  (.seq (.seq (.run [zr 15 (.mv (zt 4)), zr 16 (.bin .lss (zt 15) (zi 1))])
  (.cond (zt 16)
  (.seq (.run [za 2 (.const (.int .i32 65533)), za 3 (zi 0)])
  .ret)
  .skip))
  rc116_7)))
def ce116 : List (Nat × List Nat × List Nat) := []
def ro116 : List RO := [(.mv (zt 2)), (.mv (zt 3))]
theorem ok116 : okFn Tryz.prog 116 117 ce116 = some (rc116, ro116) := by kernel_rfl
def rc117 : RC := (.seq (.run [za 4 (zi 0)])
  (.seq (.run [zr 5 (.mv (zt 0)), zr 6 (.mv (zt 1)), zc 7 126 [(zt 5), (zt 6)], za 4 (zt 7)])
  .ret))
def ce117 : List (Nat × List Nat × List Nat) := []
def ro117 : List RO := [(.mv (zt 4))]
theorem ok117 : okFn Tryz.prog 117 8 ce117 = some (rc117, ro117) := by kernel_rfl
def rc119 : RC := (.seq (.run [za 2 (zi 0)])
  (.seq (.run [zr 3 (.mv (zt 0)), zr 4 (.bin .add (zt 3) (zi 16)), zr 5 (.bin .quo (zt 4) (zi 8)), za 2 (zt 5)])
  .ret))
def ce119 : List (Nat × List Nat × List Nat) := []
def ro119 : List RO := [(.mv (zt 2))]
theorem ok119 : okFn Tryz.prog 119 6 ce119 = some (rc119, ro119) := by kernel_rfl
def rc120_0 : RC := (.seq (.block 1 (.run [zr 23 (.mv (zt 8)), zr 24 (.bin .mul (zt 23) (.const (.int .u32 16777619))), zr 25 (.mv (zt 0)), zr 26 (.mv (zt 9)), zr 27 (.ixs (zt 25) (zt 26)), zr 28 (.cvi .u32 (zt 27)), zr 29 (.bin .add (zt 24) (zt 28)), za 8 (zt 29)]))
  (.run [zr 21 (.mv (zt 9)), zr 22 (.bin .add (zt 21) (zi 1)), za 9 (zt 22)]))
def rc120_1 : RC := (.seq (.seq (.run [zr 18 (.mv (zt 9)), zr 19 (.mv (zt 7)), zr 20 (.bin .lss (zt 18) (zt 19))])
  (.cond (zt 20)
  .skip
  (.exit 0)))
  rc120_0)
def rc120_2 : RC := (.block 3 (.seq (.run [zr 45 (.mv (zt 8)), zr 46 (.bin .mul (zt 45) (.const (.int .u32 16777619))), za 8 (zt 46)])
  (.seq (.run [zr 47 (.mv (zt 8)), zr 48 (.mv (zt 0)), zr 49 (.mv (zt 10)), zr 50 (.ixs (zt 48) (zt 49)), zr 51 (.cvi .u32 (zt 50)), zr 52 (.bin .add (zt 47) (zt 51)), za 8 (zt 52)])
  (.seq (.run [zr 53 (.mv (zt 8)), zr 54 (.mv (zt 6)), zr 55 (.mv (zt 0)), zr 56 (.mv (zt 10)), zr 57 (.mv (zt 7)), zr 58 (.bin .sub (zt 56) (zt 57)), zr 59 (.ixs (zt 55) (zt 58)), zr 60 (.cvi .u32 (zt 59)), zr 61 (.bin .mul (zt 54) (zt 60)), zr 62 (.bin .sub (zt 53) (zt 61)), za 8 (zt 62)])
  (.seq (.run [zr 63 (.mv (zt 10)), zr 64 (.bin .add (zt 63) (zi 1)), za 10 (zt 64)])
  (.seq (.run [zr 65 (.mv (zt 8)), zr 66 (.mv (zt 5)), zr 67 (.bin .eql (zt 65) (zt 66)), zr 68 (.mv (zt 67)), zg 69 68 true (.mv (zt 0)), zg 70 68 true (.mv (zt 10)), zg 71 68 true (.mv (zt 7)), zg 72 68 true (.bin .sub (zt 70) (zt 71)), zg 73 68 true (.mv (zt 10)), zg 74 68 true (.sls (zt 69) (some (zt 72)) (some (zt 73))), zg 75 68 true (.mv (zt 1)), zg 76 68 true (.bin .eql (zt 74) (zt 75)), zr 77 (.pick (zt 68) (zt 76) (.const (.bool false)))])
  (.cond (zt 77)
  (.seq (.run [zr 78 (.mv (zt 10)), zr 79 (.mv (zt 7)), zr 80 (.bin .sub (zt 78) (zt 79)), za 4 (zt 80)])
  .ret)
  .skip)))))))
def rc120_3 : RC := (.seq (.seq (.run [zr 41 (.mv (zt 10)), zr 42 (.mv (zt 0)), zr 43 (.lens (zt 42)), zr 44 (.bin .lss (zt 41) (zt 43))])
  (.cond (zt 44)
  .skip
  (.exit 2)))
  rc120_2)
def rc120_4 : RC := (.seq (.run [za 4 (zi (-1))])
  .ret)
def rc120_5 : RC := (.seq (.seq (.run [zr 40 (.mv (zt 7)), za 10 (zt 40)])
  (.block 2 (.loop rc120_3)))
  rc120_4)
def rc120_6 : RC := (.seq (.seq (.run [zr 30 (.mv (zt 8)), zr 31 (.mv (zt 5)), zr 32 (.bin .eql (zt 30) (zt 31)), zr 33 (.mv (zt 32)), zg 34 33 true (.mv (zt 0)), zg 35 33 true (.mv (zt 7)), zg 36 33 true (.sls (zt 34) none (some (zt 35))), zg 37 33 true (.mv (zt 1)), zg 38 33 true (.bin .eql (zt 36) (zt 37)), zr 39 (.pick (zt 33) (zt 38) (.const (.bool false)))])
  (.cond (zt 39)
  (.seq (.run [za 4 (zi 0)])
  .ret)
  .skip))
  rc120_5)
def rc120 : RC := (.seq (.run [za 4 (zi 0)])
  (.seq (.run [zr 12 (.mv (zt 1)), zc 13 127 [(zt 12)], zr 11 (.mv (zt 13)), zr 14 (.ext 0 (zt 11)), zr 15 (.ext 1 (zt 11)), za 5 (zt 14), za 6 (zt 15)])
  (.seq (.run [zr 16 (.mv (zt 1)), zr 17 (.lens (zt 16)), za 7 (zt 17)])
  (.seq (.run [za 8 (.const (.int .u32 0))])
  (.seq (.seq (.run [za 9 (zi 0)])
  (.block 0 (.loop rc120_1)))
  rc120_6)))))
def ce120 : List (Nat × List Nat × List Nat) := []
def ro120 : List RO := [(.mv (zt 4))]
theorem ok120 : okFn Tryz.prog 120 81 ce120 = some (rc120, ro120) := by kernel_rfl
def rc121_0 : RC := (.seq (.run [zr 7 (.mv (zt 0)), zr 8 (.lens (zt 7)), zf 9 (.mks 5 1 (.int .u8 0) (zt 8) (zt 8)), za 3 (zt 9)])
  (.seq (.run [zr 10 (.mv (zt 3)), zr 11 (.mv (zt 0)), zf 12 (.cpy 1 (zt 10) (zt 11))])
  (.seq (.run [zr 13 (.mv (zt 3)), zr 14 (.ia 1 (zt 13) (zi 0)), zr 15 (.mv (zt 3)), zr 16 (.lenl (zt 15)), zf 17 (.ust 5 (zt 14) (zt 16)), za 2 (zt 17)])
  .ret)))
def rc121 : RC := (.seq (.run [za 2 (.const (.string ⟨#[]⟩))])
  (.seq (.seq (.run [zr 4 (.mv (zt 0)), zr 5 (.lens (zt 4)), zr 6 (.bin .eql (zt 5) (zi 0))])
  (.cond (zt 6)
  (.seq (.run [za 2 (.const (.string ⟨#[]⟩))])
  .ret)
  .skip))
  rc121_0))
def ce121 : List (Nat × List Nat × List Nat) := []
def ro121 : List RO := [(.mv (zt 2))]
theorem ok121 : okFn Tryz.prog 121 18 ce121 = some (rc121, ro121) := by kernel_rfl
def rc122 : RC := (.seq (.run [za 2 (.const .nilIface)])
  (.seq (.run [zr 3 (.mv (zt 0)), zr 4 (.bld [(.string ⟨#[]⟩)] [(0, 1, (zt 3))]), zf 5 (.bx 190 (zt 4)), zr 6 (.mki 188 (zt 5)), za 2 (zt 6)])
  .ret))
def ce122 : List (Nat × List Nat × List Nat) := []
def ro122 : List RO := [(.mv (zt 2))]
theorem ok122 : okFn Tryz.prog 122 7 ce122 = some (rc122, ro122) := by kernel_rfl
def rc123 : RC := (.seq (.run [za 2 (.const (.string ⟨#[]⟩))])
  (.seq (.run [zr 3 (.mv (zt 0)), zc 4 128 [(zt 3)], za 2 (zt 4)])
  .ret))
def ce123 : List (Nat × List Nat × List Nat) := []
def ro123 : List RO := [(.mv (zt 2))]
theorem ok123 : okFn Tryz.prog 123 5 ce123 = some (rc123, ro123) := by kernel_rfl
def rc127_0 : RC := (.seq (.block 1 (.run [zr 15 (.mv (zt 4)), zr 16 (.bin .mul (zt 15) (.const (.int .u32 16777619))), zr 17 (.mv (zt 0)), zr 18 (.mv (zt 5)), zr 19 (.ixs (zt 17) (zt 18)), zr 20 (.cvi .u32 (zt 19)), zr 21 (.bin .add (zt 16) (zt 20)), za 4 (zt 21)]))
  (.run [zr 13 (.mv (zt 5)), zr 14 (.bin .add (zt 13) (zi 1)), za 5 (zt 14)]))
def rc127_1 : RC := (.seq (.seq (.run [zr 9 (.mv (zt 5)), zr 10 (.mv (zt 0)), zr 11 (.lens (zt 10)), zr 12 (.bin .lss (zt 9) (zt 11))])
  (.cond (zt 12)
  .skip
  (.exit 0)))
  rc127_0)
def rc127_2 : RC := (.seq (.block 3 (.seq (.seq (.run [zr 28 (.mv (zt 8)), zr 29 (.bin .and (zt 28) (zi 1)), zr 30 (.bin .neq (zt 29) (zi 0))])
  (.cond (zt 30)
  (.run [zr 31 (.mv (zt 6)), zr 32 (.mv (zt 7)), zr 33 (.bin .mul (zt 31) (zt 32)), za 6 (zt 33)])
  .skip))
  (.run [zr 34 (.mv (zt 7)), zr 35 (.mv (zt 7)), zr 36 (.bin .mul (zt 34) (zt 35)), za 7 (zt 36)])))
  (.run [zr 26 (.mv (zt 8)), zr 27 (.bin .shr (zt 26) (.const (.int .u64 1))), za 8 (zt 27)]))
def rc127_3 : RC := (.seq (.seq (.run [zr 24 (.mv (zt 8)), zr 25 (.bin .gtr (zt 24) (zi 0))])
  (.cond (zt 25)
  .skip
  (.exit 2)))
  rc127_2)
def rc127_4 : RC := (.seq (.run [zr 37 (.mv (zt 4)), zr 38 (.mv (zt 6)), za 2 (zt 37), za 3 (zt 38)])
  .ret)
def rc127_5 : RC := (.seq (.run [za 6 (.const (.int .u32 1)), za 7 (.const (.int .u32 16777619))])
  (.seq (.seq (.run [zr 22 (.mv (zt 0)), zr 23 (.lens (zt 22)), za 8 (zt 23)])
  (.block 2 (.loop rc127_3)))
  rc127_4))
def rc127 : RC := (.seq (.run [za 2 (.const (.int .u32 0)), za 3 (.const (.int .u32 0))])
  (.seq (.run [za 4 (.const (.int .u32 0))])
  (.seq (.seq (.run [za 5 (zi 0)])
  (.block 0 (.loop rc127_1)))
  rc127_5)))
def ce127 : List (Nat × List Nat × List Nat) := []
def ro127 : List RO := [(.mv (zt 2)), (.mv (zt 3))]
theorem ok127 : okFn Tryz.prog 127 39 ce127 = some (rc127, ro127) := by kernel_rfl
def rc128 : RC := (.seq (.run [za 2 (.const (.string ⟨#[]⟩))])
  (.seq (.run [zr 3 (.mv (zt 0)), zc 4 46 [(zt 3), (zi 10)], za 2 (zt 4)])
  .ret))
def ce128 : List (Nat × List Nat × List Nat) := []
def ro128 : List RO := [(.mv (zt 2))]
theorem ok128 : okFn Tryz.prog 128 5 ce128 = some (rc128, ro128) := by kernel_rfl
end Go.Proofs.YtiapjjgmmiifmaaGreatDoor.Ab

set_option maxRecDepth 20000
namespace Go.Proofs.YtiapjjgmmiifmaaGreatDoor.Ab
open Go Go.RowKit
noncomputable def tab : List TE := [⟨9, 50, rc9, ro9⟩, ⟨10, 8, rc10, ro10⟩, ⟨11, 19, rc11, ro11⟩, ⟨12, 54, rc12, ro12⟩, ⟨15, 8, rc15, ro15⟩, ⟨16, 11, rc16, ro16⟩, ⟨17, 19, rc17, ro17⟩, ⟨28, 21, rc28, ro28⟩, ⟨29, 45, rc29, ro29⟩, ⟨30, 45, rc30, ro30⟩, ⟨31, 8, rc31, ro31⟩, ⟨32, 38, rc32, ro32⟩, ⟨33, 13, rc33, ro33⟩, ⟨34, 8, rc34, ro34⟩, ⟨35, 2, rc35, ro35⟩, ⟨45, 101, rc45, ro45⟩, ⟨46, 54, rc46, ro46⟩, ⟨47, 32, rc47, ro47⟩, ⟨60, 8, rc60, ro60⟩, ⟨61, 30, rc61, ro61⟩, ⟨62, 8, rc62, ro62⟩, ⟨63, 21, rc63, ro63⟩, ⟨64, 46, rc64, ro64⟩, ⟨65, 21, rc65, ro65⟩, ⟨66, 15, rc66, ro66⟩, ⟨67, 15, rc67, ro67⟩, ⟨68, 167, rc68, ro68⟩, ⟨69, 102, rc69, ro69⟩, ⟨76, 66, rc76, ro76⟩, ⟨77, 26, rc77, ro77⟩, ⟨78, 6, rc78, ro78⟩, ⟨79, 25, rc79, ro79⟩, ⟨80, 4, rc80, ro80⟩, ⟨81, 8, rc81, ro81⟩, ⟨82, 8, rc82, ro82⟩, ⟨88, 50, rc88, ro88⟩, ⟨89, 34, rc89, ro89⟩, ⟨90, 8, rc90, ro90⟩, ⟨91, 172, rc91, ro91⟩, ⟨92, 43, rc92, ro92⟩, ⟨93, 14, rc93, ro93⟩, ⟨94, 14, rc94, ro94⟩, ⟨102, 10, rc102, ro102⟩, ⟨103, 19, rc103, ro103⟩, ⟨105, 143, rc105, ro105⟩, ⟨106, 5, rc106, ro106⟩, ⟨107, 94, rc107, ro107⟩, ⟨108, 11, rc108, ro108⟩, ⟨109, 11, rc109, ro109⟩, ⟨110, 16, rc110, ro110⟩, ⟨111, 16, rc111, ro111⟩, ⟨116, 117, rc116, ro116⟩, ⟨117, 8, rc117, ro117⟩, ⟨119, 6, rc119, ro119⟩, ⟨120, 81, rc120, ro120⟩, ⟨121, 18, rc121, ro121⟩, ⟨122, 7, rc122, ro122⟩, ⟨123, 5, rc123, ro123⟩, ⟨127, 39, rc127, ro127⟩, ⟨128, 5, rc128, ro128⟩]
theorem tab_ok : TOk Tryz.prog tab := by
  intro t ht
  simp only [tab, List.mem_cons, List.mem_nil_iff, or_false] at ht
  rcases ht with rfl | rfl | rfl | rfl | rfl | rfl | rfl | rfl | rfl | rfl | rfl | rfl | rfl | rfl | rfl | rfl | rfl | rfl | rfl | rfl | rfl | rfl | rfl | rfl | rfl | rfl | rfl | rfl | rfl | rfl | rfl | rfl | rfl | rfl | rfl | rfl | rfl | rfl | rfl | rfl | rfl | rfl | rfl | rfl | rfl | rfl | rfl | rfl | rfl | rfl | rfl | rfl | rfl | rfl | rfl | rfl | rfl | rfl | rfl | rfl
  · exact ⟨_, ok9⟩
  · exact ⟨_, ok10⟩
  · exact ⟨_, ok11⟩
  · exact ⟨_, ok12⟩
  · exact ⟨_, ok15⟩
  · exact ⟨_, ok16⟩
  · exact ⟨_, ok17⟩
  · exact ⟨_, ok28⟩
  · exact ⟨_, ok29⟩
  · exact ⟨_, ok30⟩
  · exact ⟨_, ok31⟩
  · exact ⟨_, ok32⟩
  · exact ⟨_, ok33⟩
  · exact ⟨_, ok34⟩
  · exact ⟨_, ok35⟩
  · exact ⟨_, ok45⟩
  · exact ⟨_, ok46⟩
  · exact ⟨_, ok47⟩
  · exact ⟨_, ok60⟩
  · exact ⟨_, ok61⟩
  · exact ⟨_, ok62⟩
  · exact ⟨_, ok63⟩
  · exact ⟨_, ok64⟩
  · exact ⟨_, ok65⟩
  · exact ⟨_, ok66⟩
  · exact ⟨_, ok67⟩
  · exact ⟨_, ok68⟩
  · exact ⟨_, ok69⟩
  · exact ⟨_, ok76⟩
  · exact ⟨_, ok77⟩
  · exact ⟨_, ok78⟩
  · exact ⟨_, ok79⟩
  · exact ⟨_, ok80⟩
  · exact ⟨_, ok81⟩
  · exact ⟨_, ok82⟩
  · exact ⟨_, ok88⟩
  · exact ⟨_, ok89⟩
  · exact ⟨_, ok90⟩
  · exact ⟨_, ok91⟩
  · exact ⟨_, ok92⟩
  · exact ⟨_, ok93⟩
  · exact ⟨_, ok94⟩
  · exact ⟨_, ok102⟩
  · exact ⟨_, ok103⟩
  · exact ⟨_, ok105⟩
  · exact ⟨_, ok106⟩
  · exact ⟨_, ok107⟩
  · exact ⟨_, ok108⟩
  · exact ⟨_, ok109⟩
  · exact ⟨_, ok110⟩
  · exact ⟨_, ok111⟩
  · exact ⟨_, ok116⟩
  · exact ⟨_, ok117⟩
  · exact ⟨_, ok119⟩
  · exact ⟨_, ok120⟩
  · exact ⟨_, ok121⟩
  · exact ⟨_, ok122⟩
  · exact ⟨_, ok123⟩
  · exact ⟨_, ok127⟩
  · exact ⟨_, ok128⟩
theorem fnd126 : Extern.findNext Tryz.f126 = none := by kernel_rfl
theorem xis126 : xIs Tryz.prog 126 .idx := ⟨Tryz.f126, _, Tryz.func126, by kernel_rfl, by kernel_rfl, fnd126, (by kernel_rfl : Extern.find Tryz.f126 = some Extern.BytealgIndexByte.indexByte), rfl⟩
theorem fnd104 : Extern.findNext Tryz.f104 = none := by kernel_rfl
theorem xis104 : xIs Tryz.prog 104 .cnt := ⟨Tryz.f104, _, Tryz.func104, by kernel_rfl, by kernel_rfl, fnd104, (by kernel_rfl : Extern.find Tryz.f104 = some Extern.BytealgCount.count), rfl⟩
def xs : List (FuncId × XK) := [(126, .idx), (104, .cnt)]
theorem xs_all : ∀ x ∈ xs, xIs Tryz.prog x.1 x.2 := by
  intro x hx
  simp only [xs, List.mem_cons, List.mem_nil_iff, or_false] at hx
  rcases hx with rfl | rfl
  · exact xis126
  · exact xis104
theorem xs_ok : XOk Tryz.prog (xCall xs) := xCall_ok xs_all
end Go.Proofs.YtiapjjgmmiifmaaGreatDoor.Ab

set_option linter.unusedVariables false
set_option linter.unusedSimpArgs false
set_option maxHeartbeats 4000000
set_option maxRecDepth 100000
namespace Go.Proofs.YtiapjjgmmiifmaaGreatDoor.Ab
open Go Go.RowKit
def z32 : List Int := [0, 1, 28, 2, 29, 14, 24, 3, 30, 22, 20, 15, 25, 17, 4, 8, 31, 27, 13, 23, 21, 19, 16, 7, 26, 12, 18, 6, 11, 5, 10, 9]
def z64 : List Int := [0, 1, 56, 2, 57, 49, 28, 3, 61, 58, 42, 50, 38, 29, 17, 4, 62, 47, 59, 36, 45, 43, 51, 22, 53, 39, 33, 30, 24, 18, 12, 5, 63, 55, 48, 27, 60, 41, 37, 16, 46, 35, 44, 21, 52, 32, 23, 11, 54, 26, 40, 15, 34, 20, 31, 10, 25, 14, 19, 9, 13, 8, 7, 6]
def z10 : List Int := [1, 10, 100, 1000, 10000, 100000, 1000000, 10000000, 100000000, 1000000000, 10000000000, 100000000000, 1000000000000, 10000000000000, 100000000000000, 1000000000000000, 10000000000000000, 100000000000000000, 1000000000000000000, 10000000000000000000]
def e32 : List Value := z32.map fun z => .int .u8 z
def e64 : List Value := z64.map fun z => .int .u8 z
def e10 : List Value := z10.map fun z => .int .u64 z
def gs0 : List (Nat × List Value) := [(1, e32), (2, e64), (0, e10)]
def L0 : LM := ⟨8, (.n (.n (.n (.n (.n (.ro e10) (.ro e32) (.ro e64) .dead .dead .dead .dead .dead) .e .e .e .e .e .e .e) .e .e .e .e .e .e .e) .e .e .e .e .e .e .e) .e .e .e .e .e .e .e)⟩
theorem globals_size : Tryz.prog.globals.size = L0.n := by kernel_rfl
theorem L0_get (i : Nat) : L0.get i = entOf gs0 i := by
  by_cases h : i < 8
  · have : i = 0 ∨ i = 1 ∨ i = 2 ∨ i = 3 ∨ i = 4 ∨ i = 5 ∨ i = 6 ∨ i = 7 := by omega
    rcases this with rfl | rfl | rfl | rfl | rfl | rfl | rfl | rfl <;> rfl
  · rw [LM.get_ge h]
    have n1 : (i == 1) = false := by simp; omega
    have n2 : (i == 2) = false := by simp; omega
    have n0 : (i == 0) = false := by simp; omega
    simp [entOf, gs0, List.lookup_cons, n1, n2, n0]
theorem laid_ok : laidB Tryz.prog gs0 = true := by kernel_rfl
theorem L0_part : partB L0 = true := by kernel_rfl
theorem laidIn {W : World} {l : List (String × DataW Unit)} (h : laidMet Tryz.prog l W) (h1 : ("math/bits.deBruijn32tab", Lib.tabData .u8 z32) ∈ l) (h2 : ("math/bits.deBruijn64tab", Lib.tabData .u8 z64) ∈ l) (h3 : ("internal/strconv.uint64pow10", Lib.tabData .u64 z10) ∈ l) : LaidIn Tryz.prog W gs0 where
  cell := by
    intro x hx
    simp only [gs0, List.mem_cons, List.mem_nil_iff, or_false] at hx
    rcases hx with rfl | rfl | rfl
    · exact laid_tab h h1 (by kernel_rfl) (by kernel_rfl) Tryz.underlying173 Tryz.underlying5 (by kernel_rfl) (by kernel_rfl)
    · exact laid_tab h h2 (by kernel_rfl) (by kernel_rfl) Tryz.underlying174 Tryz.underlying5 (by kernel_rfl) (by kernel_rfl)
    · exact laid_tab h h3 (by kernel_rfl) (by kernel_rfl) Tryz.underlying140 Tryz.underlying85 (by kernel_rfl) (by kernel_rfl)
theorem awk : outIs (.bool true) (callE tab (xCall xs) Tryz.prog 3000 9 [] L0) = true := by kernel_rfl
theorem c_awake {w0 : World} {m : Mem} {Q : Value → Mem → Prop} (hp : Part L0 m) (hq : Q (.bool true) m) : AbC Tryz.prog w0 9 [] m Q :=
  AbC_run 3000 tab_ok xs_ok hp (Nat.le_of_eq globals_size) rfl awk rfl hq
end Go.Proofs.YtiapjjgmmiifmaaGreatDoor.Ab

set_option linter.unusedVariables false
set_option linter.unusedSimpArgs false
namespace Go.Proofs.YtiapjjgmmiifmaaGreatDoor.Ab
open Go Go.RowKit
set_option maxHeartbeats 4000000
set_option maxRecDepth 100000
theorem closed {w0 : World} {m : Mem} {f : FuncId} {args : List Value} {v : Value} {Q : Value → Mem → Prop} {n : Nat} (hp : Part L0 m) (ha : args.all (plainV 6) = true) (h : outIs v (callE tab (xCall xs) Tryz.prog n f args L0) = true) (hv : plainV 6 v = true) (hq : Q v m) : AbC Tryz.prog w0 f args m Q :=
  AbC_run n tab_ok xs_ok hp (Nat.le_of_eq globals_size) ha h hv hq
/-- The sign of a digit. -/
def digC (d : Nat) : UInt8 := if d < 10 then UInt8.ofNat (48 + d) else UInt8.ofNat (87 + d)
/-- A number's digits in a base. -/
def digs (b n : Nat) : List UInt8 := if h : n < b ∨ b < 2 then [digC n] else digs b (n / b) ++ [digC (n % b)]
termination_by n
decreasing_by exact Nat.div_lt_self (by omega) (by omega)
theorem digs_lt {b n : Nat} (h : n < b) : digs b n = [digC n] := by rw [digs, dif_pos (.inl h)]
theorem digs_ge {b n : Nat} (hb : 2 ≤ b) (h : b ≤ n) : digs b n = digs b (n / b) ++ [digC (n % b)] := by rw [digs, dif_neg (by omega)]
theorem digs_pos (b n : Nat) : 1 ≤ (digs b n).length := by
  rw [digs]; split <;> simp
theorem digs_len {b : Nat} (hb : 2 ≤ b) : ∀ (L n : Nat), n < b ^ L → (digs b n).length ≤ max L 1
  | 0, n, h => by
    have : n < b := by simp at h; omega
    rw [digs_lt this]; simp
  | L + 1, n, h => by
    by_cases hn : n < b
    · rw [digs_lt hn]; simp
    · rw [digs_ge hb (by omega)]
      have h1 : n / b < b ^ L := by
        rw [Nat.div_lt_iff_lt_mul (by omega)]
        rw [Nat.pow_succ] at h; exact h
      have := digs_len hb L (n / b) h1
      simp only [List.length_append, List.length_cons, List.length_nil]
      by_cases hL : L = 0
      · subst hL
        exfalso
        simp at h; omega
      · omega
theorem digs_64 {b n : Nat} (hb : 8 ≤ b) (h : n < 18446744073709551616) : (digs b n).length ≤ 22 := by
  have h1 : (8 : Nat) ^ 22 ≤ b ^ 22 := Nat.pow_le_pow_left hb 22
  have h2 : (8 : Nat) ^ 22 = 73786976294838206464 := by decide
  have := digs_len (show 2 ≤ b by omega) 22 n (by omega)
  simpa using this
def digitsS : ByteArray := ⟨#[48, 49, 50, 51, 52, 53, 54, 55, 56, 57, 97, 98, 99, 100, 101, 102, 103, 104, 105, 106, 107, 108, 109, 110, 111, 112, 113, 114, 115, 116, 117, 118, 119, 120, 121, 122]⟩
theorem digitsS_at : ∀ d : Fin 36, digitsS[d.val]? = some (digC d.val) := by decide +kernel
theorem dAnd {u k : Nat} (hu : u < 18446744073709551616) (hk : k ≤ 63) {z : Int} (hz : z = ((2 ^ k - 1 : Nat) : Int)) : dBin .and (.int .u64 (u : Int)) (.int .u64 z) = some (.int .u64 ((u % 2 ^ k : Nat) : Int)) := by
  subst hz
  have h2 : (2 : Nat) ^ k ≤ 2 ^ 63 := Nat.pow_le_pow_right (by omega) hk
  have hp : 0 < (2 : Nat) ^ k := Nat.pow_pos (by omega)
  have h1 := binI_eq (op := .and) (k := .u64) (a := Int.ofNat u) (b := Int.ofNat (2 ^ k - 1)) (v := .int .u64 (IntKind.u64.wrap (Int.ofNat (Nat.land u (2 ^ k - 1))))) (by
    simp only [binI, bitI]
    rw [blt_true.2 (show u < kTop .u64 by simpa [kTop] using hu), blt_true.2 (show 2 ^ k - 1 < kTop .u64 by simp only [kTop]; omega)]
    simp only [wrapF_eq])
  have h3 : Nat.land u (2 ^ k - 1) = u % 2 ^ k := Nat.and_two_pow_sub_one_eq_mod u k
  have h4 : u % 2 ^ k < 2 ^ k := Nat.mod_lt _ hp
  have h5 : IntKind.u64.wrap (Int.ofNat (u % 2 ^ k)) = ((u % 2 ^ k : Nat) : Int) := by rw [IntWalk.u64_in]; rfl; simp only [Int.ofNat_eq_natCast]; omega
  rw [h3, h5] at h1
  exact h1
theorem dShr {u k : Nat} (hk : k ≤ 63) {z : Int} (hz : z = (k : Int)) : dBin .shr (.int .u64 (u : Int)) (.int .u64 z) = some (.int .u64 ((u / 2 ^ k : Nat) : Int)) := by
  subst hz
  have h1 := shI_eq (op := .shr) (k := .u64) (k' := .u64) (a := Int.ofNat u) (b := Int.ofNat k) (v := .int .u64 (Int.ofNat (Nat.shiftRight u k))) (by
    simp only [shI]
    rw [Nat.ble_eq_true_of_le (show k ≤ kBits .u64 by simp only [kBits]; omega)])
  have h2 : Nat.shiftRight u k = u / 2 ^ k := Nat.shiftRight_eq_div_pow u k
  rw [h2] at h1
  exact h1
/-- The last digit's place: cells with one more written ahead of the rest. -/
theorem putAt_ahead {cs : List Value} {t : List UInt8} {c : UInt8} (hl : cs.length = 65) (ht : t.length < 65) (hd : cs.drop (65 - t.length) = t.map byteV) :
    (putAt cs (65 - t.length - 1) [.int .u8 c.toNat]).length = 65 ∧ (putAt cs (65 - t.length - 1) [.int .u8 c.toNat]).drop (65 - (c :: t).length) = (c :: t).map byteV := by
  have e1 : 65 - (c :: t).length = 65 - t.length - 1 := by simp; omega
  have e2 : 65 - t.length - 1 + 1 = 65 - t.length := by omega
  have h9 : (cs.drop (65 - t.length)).length = t.length := by rw [hd]; simp
  refine ⟨by simp only [putAt, List.length_append, List.length_take, List.length_cons, List.length_nil, Nat.zero_add, e2, h9, hl]; omega, ?_⟩
  rw [e1]
  simp only [putAt, List.length_cons, List.length_nil, Nat.zero_add, e2, hd]
  rw [List.append_assoc, List.drop_append, List.length_take]
  rw [show min (65 - t.length - 1) cs.length = 65 - t.length - 1 from by omega, Nat.sub_self]
  rw [List.drop_eq_nil_of_le (by rw [List.length_take]; omega)]
  simp [byteV]
theorem bytesOf_mapN : ∀ (l : List UInt8), bytesOf (l.map byteV) = some l
  | [] => rfl
  | b :: l => by
    show (bytesOf (l.map byteV)).map (UInt8.ofNat ((b.toNat : Int).toNat) :: ·) = _
    rw [bytesOf_mapN l]
    simp
theorem bstr_tail {m : Mem} {i J : Nat} {e : TypeId} {cs : List Value} {t : List UInt8} (hg : m.get i = .own cs e) (hl : cs.length = 65) (hJ : 65 - t.length = J) (ht : t.length ≤ 65) (hd : cs.drop (65 - t.length) = t.map byteV) :
    bstr m (.slice (some ⟨i, J, none⟩) (65 - J) 1) = some (.string ⟨⟨t⟩⟩) := by
  rw [hJ] at hd
  have h1 : (cs.drop J).take (65 - J) = t.map byteV := by rw [hd]; exact List.take_of_length_le (by simp; omega)
  simp only [bstr, Mem.row_own hg]
  rw [if_pos (by omega), h1]
  simp only [bytesOf_mapN]
/-- What the sign adds. -/
def sgn (neg : Bool) : List UInt8 := if neg then [45] else []
theorem c_fmtTail {w0 : World} {m m1 : Mem} {ts : Fr} {B k a i : Nat} {neg : Bool} {Q : Value → Mem → Prop} {zs : List Value} (hp : Part L0 m1) (ho : Old m m1) (hi : m.next ≤ i) (hi2 : i < m1.next) (hz : m1.get i = .own zs 141) (hzl : zs.length = 65)
    (hB : B = 2 ^ k) (hk : 3 ≤ k ∧ k ≤ 5) (hB2 : 8 ≤ B) (hB3 : B ≤ 32) (ha : a < 18446744073709551616)
    (t1 : ts 1 = .int .u64 (a : Int)) (t2 : ts 2 = .int .i64 (B : Int)) (t3 : ts 3 = .bool neg) (t4 : ts 4 = .bool false) (t10 : ts 10 = .slice none 0 0) (t12 : ts 12 = .pointer (some ⟨i, 0, none⟩)) (t13 : ts 13 = .int .i64 65)
    (h1 : outIs (.bool true) (callE tab (xCall xs) Tryz.prog 50 81 [.int .i64 (B : Int)] L0) = true)
    (h2 : outIs (.int .i64 (k : Int)) (callE tab (xCall xs) Tryz.prog 50 82 [.int .u64 (B : Int)] L0) = true)
    (hq : ∀ m', Old m m' → Q (.tuple ⟨[.slice none 0 0, .string ⟨⟨sgn neg ++ digs B a⟩⟩]⟩) m') :
    AbW Tryz.prog w0 rc69_9 (bodyA ro69 Q) ts m1 := by
  have wB : IntKind.u64.wrap (B : Int) = B := IntWalk.u64_in _ (by omega)
  have wk : IntKind.u64.wrap (k : Int) = k := IntWalk.u64_in _ (by omega)
  have wB1 : IntKind.u64.wrap ((B : Int) - 1) = (B : Int) - 1 := IntWalk.u64_in _ (by omega)
  simp -implicitDefEqProofs (disch := first | assumption | (simp only [wnA]; done) | (simp only [wnA]; omega) | omega | fail) [rc69_9, ro69, wkA, retV, stabOk, dC, ev, fillD, pickCells, putAt, bnd, slD, List.getElem?_cons_zero, List.getElem?_cons_succ, dR.eq_20, Mem.cell, Mem.row, wmA, t2]
  refine closed hp rfl h1 rfl ?_
  simp -implicitDefEqProofs (disch := first | assumption | (simp only [wnA]; done) | (simp only [wnA]; omega) | omega | fail) [wkA, retV, stabOk, dC, ev, fillD, pickCells, putAt, bnd, slD, List.getElem?_cons_zero, List.getElem?_cons_succ, dR.eq_20, Mem.cell, Mem.row, wmA, t2, wB]
  refine closed hp rfl h2 rfl ?_
  simp -implicitDefEqProofs (disch := first | assumption | (simp only [wnA]; done) | (simp only [wnA]; omega) | omega | fail) [wkA, retV, stabOk, dC, ev, fillD, pickCells, putAt, bnd, slD, List.getElem?_cons_zero, List.getElem?_cons_succ, dR.eq_20, Mem.cell, Mem.row, wmA, t2, wB, wk, wB1]
  have hlen := digs_64 hB2 ha
  refine LoopW_of (fun n ts' m' => ∃ (u : Nat) (t : List UInt8) (cs : List Value), u = n ∧ u ≤ a ∧ digs B a = digs B u ++ t ∧ Old m m' ∧ m'.get i = .own cs 141 ∧ cs.length = 65 ∧ cs.drop (65 - t.length) = t.map byteV ∧
      ts' 1 = .int .u64 (u : Int) ∧ ts' 3 = .bool neg ∧ ts' 4 = .bool false ∧ ts' 10 = .slice none 0 0 ∧ ts' 12 = .pointer (some ⟨i, 0, none⟩) ∧ ts' 13 = .int .i64 ((65 - t.length : Nat) : Int) ∧ ts' 14 = .int .u64 (k : Int) ∧ ts' 15 = .int .u64 (B : Int) ∧ ts' 16 = .int .u64 ((B : Int) - 1)) a ?_ ?_
  · exact ⟨a, [], zs, rfl, Nat.le_refl _, by simp, ho, hz, hzl, by simp [hzl], by simp [t1], by simp [t3], by simp [t4], by simp [t10], by simp [t12], by simp [t13], by simp, by simp, by simp⟩
  · rintro n ts' m' K ⟨u, t, cs, rfl, hua, hd, o', g', hl, hdr, s1, s3, s4, s10, s12, s13, s14, s15, s16⟩ hK
    have hdl := congrArg List.length hd
    simp only [List.length_append] at hdl
    have hpos := digs_pos B u
    have htl : t.length < 65 := by omega
    have eI : ((65 - t.length : Nat) : Int) - 1 = ((65 - t.length - 1 : Nat) : Int) := by omega
    have wI : IntKind.i64.wrap (((65 - t.length : Nat) : Int) - 1) = ((65 - t.length - 1 : Nat) : Int) := by rw [eI]; exact w64 (by omega)
    have hin : (0 : Int) ≤ ((65 - t.length - 1 : Nat) : Int) ∧ ((65 - t.length - 1 : Nat) : Int) < 65 := by omega
    have hu64 : u < 18446744073709551616 := by omega
    generalize hJ : 65 - t.length - 1 = J at *
    have hmod : u % B < 36 := Nat.lt_of_lt_of_le (Nat.mod_lt _ (by omega)) (by omega)
    have kA : dBin .and (.int .u64 (u : Int)) (.int .u64 ((B : Int) - 1)) = some (.int .u64 ((u % B : Nat) : Int)) := by
      have := dAnd (u := u) (k := k) hu64 (by omega) (z := (B : Int) - 1) (by rw [hB]; have : 0 < 2 ^ k := Nat.pow_pos (by omega); omega)
      rw [← hB] at this; exact this
    have kS : dBin .shr (.int .u64 (u : Int)) (.int .u64 (k : Int)) = some (.int .u64 ((u / B : Nat) : Int)) := by
      have := dShr (u := u) (k := k) (by omega) (z := (k : Int)) rfl
      rw [← hB] at this; exact this
    have kX := digitsS_at ⟨u % B, hmod⟩
    simp only [digitsS] at kX
    have m0 : (0 : Int) ≤ ((u % B : Nat) : Int) := by omega
    have hcoe : (((u % B : Nat) : Int)).toNat = u % B := Int.toNat_natCast _
    have hJl : J + 1 ≤ cs.length := by omega
    simp -implicitDefEqProofs (disch := first | assumption | (simp only [wnA]; done) | (simp only [wnA]; omega) | omega | fail) [rc69_1, wkA, retV, stabOk, dC, ev, fillD, pickCells, putAt, bnd, slD, List.getElem?_cons_zero, List.getElem?_cons_succ, dR.eq_20, Mem.cell, Mem.row, wmA, s1, s15]
    by_cases hBu : B ≤ u
    · generalize hM : u % B = M at *
      simp -implicitDefEqProofs (disch := first | assumption | (simp only [wnA]; done) | (simp only [wnA]; omega) | omega | fail) [rc69_0, wkA, retV, stabOk, dC, ev, fillD, pickCells, putAt, bnd, slD, List.getElem?_cons_zero, List.getElem?_cons_succ, dR.eq_20, Mem.cell, Mem.row, wmA, s1, s12, s13, s14, s15, s16, hBu, wI, kA, kS, kX, m0, hin]
      refine SK_st (i := i) (o := J) (by simp [wkA, retV, stabOk, dC, ev, fillD, pickCells, putAt, bnd, slD, List.getElem?_cons_zero, List.getElem?_cons_succ, dR.eq_20]) (e := 141) g' (by omega) (by simp [wkA, retV, stabOk, dC, ev, fillD, pickCells, putAt, bnd, slD, List.getElem?_cons_zero, List.getElem?_cons_succ, dR.eq_20]) (by simp [wkA, retV, stabOk, dC, ev, fillD, pickCells, putAt, bnd, slD, List.getElem?_cons_zero, List.getElem?_cons_succ, dR.eq_20, oneC]) ?_
      simp -implicitDefEqProofs (disch := first | assumption | (simp only [wnA]; done) | (simp only [wnA]; omega) | omega | fail) [wkA, retV, stabOk, dC, ev, fillD, pickCells, putAt, bnd, slD, List.getElem?_cons_zero, List.getElem?_cons_succ, dR.eq_20, Mem.cell, Mem.row, wmA, s1, s14, kS]
      have hpa := putAt_ahead (c := digC M) hl htl hdr
      rw [hJ] at hpa
      have hpe : putAt cs J [.int .u8 (digC M).toNat] = cs.take J ++ .int .u8 (digC M).toNat :: cs.drop (J + 1) := by simp [putAt]
      rw [← hpe]
      refine hK (u / B) _ _ (Nat.div_lt_self (by omega) (by omega)) ⟨u / B, digC M :: t, _, rfl, Nat.le_trans (Nat.div_le_self _ _) hua, ?_, o'.set hi _, by simp, hpa.1, hpa.2, by simp, by simp [s3], by simp [s4], by simp [s10], by simp [s12], ?_, by simp [s14], by simp [s15], by simp [s16]⟩
      · rw [hd, digs_ge (by omega) hBu, hM]; simp
      · have : 65 - (digC M :: t).length = J := by simp; omega
        rw [this]; simp
    · have hub : u < 36 := by omega
      have kY := digitsS_at ⟨u, hub⟩
      simp only [digitsS] at kY
      have m1' : (0 : Int) ≤ (u : Int) := by omega
      simp -implicitDefEqProofs (disch := first | assumption | (simp only [wnA]; done) | (simp only [wnA]; omega) | omega | fail) [rc69_2, wkA, retV, stabOk, dC, ev, fillD, pickCells, putAt, bnd, slD, List.getElem?_cons_zero, List.getElem?_cons_succ, dR.eq_20, Mem.cell, Mem.row, wmA, s1, s12, s13, s14, s15, s16, hBu, wI, kY, m1', hin]
      refine SK_st (i := i) (o := J) (by simp [wkA, retV, stabOk, dC, ev, fillD, pickCells, putAt, bnd, slD, List.getElem?_cons_zero, List.getElem?_cons_succ, dR.eq_20]) (e := 141) g' (by omega) (by simp [wkA, retV, stabOk, dC, ev, fillD, pickCells, putAt, bnd, slD, List.getElem?_cons_zero, List.getElem?_cons_succ, dR.eq_20]) (by simp [wkA, retV, stabOk, dC, ev, fillD, pickCells, putAt, bnd, slD, List.getElem?_cons_zero, List.getElem?_cons_succ, dR.eq_20, oneC]) ?_
      have hpa := putAt_ahead (c := digC u) hl htl hdr
      rw [hJ] at hpa
      have hpe : putAt cs J [.int .u8 (digC u).toNat] = cs.take J ++ .int .u8 (digC u).toNat :: cs.drop (J + 1) := by simp [putAt]
      have hfull : digs B a = digC u :: t := by rw [hd, digs_lt (by omega)]; simp
      simp -implicitDefEqProofs (disch := first | assumption | (simp only [wnA]; done) | (simp only [wnA]; omega) | omega | fail) [wkA, retV, stabOk, dC, ev, fillD, pickCells, putAt, bnd, slD, List.getElem?_cons_zero, List.getElem?_cons_succ, dR.eq_20, Mem.cell, Mem.row, wmA]
      rw [← hpe]
      obtain ⟨p1, p2⟩ := hpa
      generalize putAt cs J [.int .u8 (digC u).toNat] = cs2 at *
      rw [hfull] at hlen hq
      have hJ2 : 65 - (digC u :: t).length = J := by simp; omega
      have hlen2 : t.length + 1 ≤ 22 := by simpa using hlen
      cases neg with
      | false =>
        have eL : (0 : Int) ≤ (J : Int) ∧ (J : Int) ≤ 65 := by omega
        have eJ0 : J ≠ 0 := by omega
        have eJ65 : J ≠ 65 := by omega
        have hrow : (cs2.drop J).take (65 - J) = (digC u :: t).map byteV := by rw [← hJ2, p2]; exact List.take_of_length_le (by simp; omega)
        simp -implicitDefEqProofs (disch := first | assumption | (simp only [wnA]; done) | (simp only [wnA]; omega) | omega | fail) [rc69_8, rc69_7, rc69_6, wkA, retV, stabOk, dC, ev, fillD, pickCells, putAt, bnd, slD, List.getElem?_cons_zero, List.getElem?_cons_succ, dR.eq_20, Mem.cell, Mem.row, wmA, s3, s4, s10, s12, p1, eL]
        rw [bstr_tail (e := 141) (t := digC u :: t) (by simp) p1 hJ2 (by simp; omega) p2]
        simp -implicitDefEqProofs (disch := first | assumption | (simp only [wnA]; done) | (simp only [wnA]; omega) | omega | fail) [wkA, retV, stabOk, dC, ev, fillD, pickCells, putAt, bnd, slD, List.getElem?_cons_zero, List.getElem?_cons_succ, dR.eq_20, Mem.cell, Mem.row, wmA, s10]
        have := hq _ (o'.set hi (.own cs2 141))
        simpa [sgn] using this
      | true =>
        have hlt2 : (digC u :: t).length < 65 := by simp; omega
        have eJ1 : (J : Int) - 1 = ((J - 1 : Nat) : Int) := by omega
        have wJ : IntKind.i64.wrap ((J : Int) - 1) = ((J - 1 : Nat) : Int) := by rw [eJ1]; exact w64 (by omega)
        have hin2 : (0 : Int) ≤ ((J - 1 : Nat) : Int) ∧ ((J - 1 : Nat) : Int) < 65 := by omega
        have hp3 := putAt_ahead (c := 45) p1 hlt2 p2
        rw [hJ2] at hp3
        obtain ⟨p3, p4⟩ := hp3
        generalize hK2 : J - 1 = J3 at *
        have hpe3 : putAt cs2 J3 [.int .u8 (45 : UInt8).toNat] = cs2.take J3 ++ .int .u8 45 :: cs2.drop (J3 + 1) := by simp [putAt]
        simp -implicitDefEqProofs (disch := first | assumption | (simp only [wnA]; done) | (simp only [wnA]; omega) | omega | fail) [rc69_8, wkA, retV, stabOk, dC, ev, fillD, pickCells, putAt, bnd, slD, List.getElem?_cons_zero, List.getElem?_cons_succ, dR.eq_20, Mem.cell, Mem.row, wmA, s3, s4, s10, s12, wJ, hin2]
        refine SK_st (i := i) (o := J3) (by simp [wkA, retV, stabOk, dC, ev, fillD, pickCells, putAt, bnd, slD, List.getElem?_cons_zero, List.getElem?_cons_succ, dR.eq_20]) (e := 141) (cs := cs2) (by simp) (by omega) (by simp [wkA, retV, stabOk, dC, ev, fillD, pickCells, putAt, bnd, slD, List.getElem?_cons_zero, List.getElem?_cons_succ, dR.eq_20]) (by simp [wkA, retV, stabOk, dC, ev, fillD, pickCells, putAt, bnd, slD, List.getElem?_cons_zero, List.getElem?_cons_succ, dR.eq_20, oneC]) ?_
        simp -implicitDefEqProofs (disch := first | assumption | (simp only [wnA]; done) | (simp only [wnA]; omega) | omega | fail) [wkA, retV, stabOk, dC, ev, fillD, pickCells, putAt, bnd, slD, List.getElem?_cons_zero, List.getElem?_cons_succ, dR.eq_20, Mem.cell, Mem.row, wmA]
        rw [← hpe3]
        generalize putAt cs2 J3 [.int .u8 (45 : UInt8).toNat] = cs4 at *
        have eL : (0 : Int) ≤ (J3 : Int) ∧ (J3 : Int) ≤ 65 := by omega
        have eJ0 : J3 ≠ 0 := by omega
        have eJ65 : J3 ≠ 65 := by omega
        have hJ4 : 65 - (45 :: digC u :: t).length = J3 := by simp; omega
        simp -implicitDefEqProofs (disch := first | assumption | (simp only [wnA]; done) | (simp only [wnA]; omega) | omega | fail) [rc69_7, rc69_6, wkA, retV, stabOk, dC, ev, fillD, pickCells, putAt, bnd, slD, List.getElem?_cons_zero, List.getElem?_cons_succ, dR.eq_20, Mem.cell, Mem.row, wmA, s3, s4, s10, s12, p3, eL]
        rw [bstr_tail (e := 141) (t := 45 :: digC u :: t) (by simp) p3 hJ4 (by simp; omega) p4]
        simp -implicitDefEqProofs (disch := first | assumption | (simp only [wnA]; done) | (simp only [wnA]; omega) | omega | fail) [wkA, retV, stabOk, dC, ev, fillD, pickCells, putAt, bnd, slD, List.getElem?_cons_zero, List.getElem?_cons_succ, dR.eq_20, Mem.cell, Mem.row, wmA, s10]
        have := hq _ ((o'.set hi (.own cs2 141)).set hi (.own cs4 141))
        simpa [sgn] using this
theorem c_fmtBits {w0 : World} {m : Mem} {B k a : Nat} {u : Int} {neg : Bool} {Q : Value → Mem → Prop} (hp : Part L0 m) (hB : B = 2 ^ k) (hk : 3 ≤ k ∧ k ≤ 5) (hne : B ≠ 10) (ha : a < 18446744073709551616)
    (hu : u = if neg then IntKind.u64.wrap (0 - (a : Int)) else (a : Int))
    (h1 : outIs (.bool true) (callE tab (xCall xs) Tryz.prog 50 81 [.int .i64 (B : Int)] L0) = true)
    (h2 : outIs (.int .i64 (k : Int)) (callE tab (xCall xs) Tryz.prog 50 82 [.int .u64 (B : Int)] L0) = true)
    (hq : ∀ m', Old m m' → Q (.tuple ⟨[.slice none 0 0, .string ⟨⟨sgn neg ++ digs B a⟩⟩]⟩) m') :
    AbC Tryz.prog w0 69 [.slice none 0 0, .int .u64 u, .int .i64 (B : Int), .bool neg, .bool false] m Q := by
  refine AbC_fn ok69 (by simp) ?_
  have hB2 : 8 ≤ B := by rw [hB]; calc 8 = 2 ^ 3 := rfl
    _ ≤ 2 ^ k := Nat.pow_le_pow_right (by omega) hk.1
  have hB3 : B ≤ 32 := by rw [hB]; calc 2 ^ k ≤ 2 ^ 5 := Nat.pow_le_pow_right (by omega) hk.2
    _ = 32 := rfl
  have f1 : (2 : Int) ≤ B := by omega
  have f2 : (B : Int) ≠ 10 := by omega
  have f3 : (B : Int) ≤ 36 := by omega
  simp -implicitDefEqProofs (disch := first | assumption | (simp only [wnA]; done) | (simp only [wnA]; omega) | omega | fail) [rc69, ro69, wkA, retV, stabOk, dC, ev, fillD, pickCells, putAt, bnd, slD, List.getElem?_cons_zero, List.getElem?_cons_succ, dR.eq_20, Mem.cell, Mem.row, wmA, ltF f1, beqF f2, gtF f3]
  have ho : ∀ E, Old m (m.push E) := fun E => (Old.refl m).push _
  cases neg with
  | false =>
    have hu' : u = (a : Int) := by simpa using hu
    subst hu'
    simp -implicitDefEqProofs (disch := first | assumption | (simp only [wnA]; done) | (simp only [wnA]; omega) | omega | fail) [rc69_10, wkA, retV, stabOk, dC, ev, fillD, pickCells, putAt, bnd, slD, List.getElem?_cons_zero, List.getElem?_cons_succ, dR.eq_20, Mem.cell, Mem.row, wmA]
    exact c_fmtTail (k := k) ((ho _).part hp) (ho _) (Nat.le_refl m.next) (by simp) (by simp -implicitDefEqProofs (disch := first | assumption | (simp only [wnA]; done) | (simp only [wnA]; omega) | omega | fail) [Mem.cell, Mem.row, wmA]; rfl) (by simp) hB hk hB2 hB3 ha (by simp [frA_at]) (by simp [frA_at]) (by simp [frA_at]) (by simp [frA_at]) (by simp) (by simp) (by simp) h1 h2 hq
  | true =>
    have hu' : u = IntKind.u64.wrap (0 - (a : Int)) := by simpa using hu
    have hw : IntKind.u64.wrap (0 - u) = (a : Int) := by
      subst hu'
      simp only [IntKind.wrap, IntKind.bits, IntKind.signed]
      simp
      omega
    have hw' : IntKind.u64.wrap (-u) = (a : Int) := by simpa using hw
    simp -implicitDefEqProofs (disch := first | assumption | (simp only [wnA]; done) | (simp only [wnA]; omega) | omega | fail) [rc69_10, wkA, retV, stabOk, dC, ev, fillD, pickCells, putAt, bnd, slD, List.getElem?_cons_zero, List.getElem?_cons_succ, dR.eq_20, Mem.cell, Mem.row, wmA, hw, hw']
    exact c_fmtTail (k := k) ((ho _).part hp) (ho _) (Nat.le_refl m.next) (by simp) (by simp -implicitDefEqProofs (disch := first | assumption | (simp only [wnA]; done) | (simp only [wnA]; omega) | omega | fail) [Mem.cell, Mem.row, wmA]; rfl) (by simp) hB hk hB2 hB3 ha (by simp [frA_at]) (by simp [frA_at]) (by simp [frA_at]) (by simp [frA_at]) (by simp) (by simp) (by simp) h1 h2 hq
end Go.Proofs.YtiapjjgmmiifmaaGreatDoor.Ab

namespace Go.Proofs
open Go.Shelf
def Tryz.lays283_ren : Go.Shelf.Ren := ⟨fun | 283 => 66 | n => n, fun | 3 => 3 | 9 => 9 | 4 => 4 | n => n, fun | n => n⟩
theorem Tryz.lays283 : Go.Proofs.Lays.n283 Tryz.prog Tryz.lays283_ren := {
  mixed := by kernel_rfl
  f283 := Tryz.func66.trans (congrArg some (by kernel_rfl))
  t3 := Tryz.underlying3
  a3 := Tryz.isAgg3
  z3 := Tryz.sizeOf3
  v3 := Tryz.zeroValue3
  t4 := Tryz.underlying4
  a4 := Tryz.isAgg4
  z4 := Tryz.sizeOf4
  v4 := Tryz.zeroValue4
  t9 := Tryz.underlying9
  a9 := Tryz.isAgg9
  z9 := Tryz.sizeOf9
  v9 := Tryz.zeroValue9 }
open Go.Lib in
/-- internal/strconv.small: "small returns the string for an i with 0 <= i < nSmalls.": i's decimal numeral. The world is as it was. (LAID: no walk: one application.) -/
theorem Tryz.internal_strconv_small (i : Nat) (h : i < 100) (w : World) :
    Calls Tryz.prog 66 #[.int .i64 i] w fun e w' => e = .returned (.string ⟨(Lib.decDigits i).toArray⟩) ∧ w' = w := Any.internal_strconv_small Tryz.lays283 i h w
def Tryz.laysM284_ren : Go.Shelf.Ren := ⟨fun | 284 => 67 | 129 => 79 | 317 => 78 | 318 => 80 | n => n, fun | 53 => 85 | 3 => 3 | 212 => 140 | 0 => 0 | 4 => 4 | 46 => 100 | 5 => 5 | 9 => 9 | n => n, fun | 17 => 0 | n => n⟩
theorem Tryz.laysM284 : Go.Proofs.LaysM.n284 Tryz.prog Tryz.laysM284_ren := {
  mixed := by kernel_rfl
  f129 := Tryz.func79.trans (congrArg some (by kernel_rfl))
  f284 := Tryz.func67.trans (congrArg some (by kernel_rfl))
  f317 := Tryz.func78.trans (congrArg some (by kernel_rfl))
  f318 := Tryz.func80.trans (congrArg some (by kernel_rfl))
  t0 := Tryz.underlying0
  a0 := Tryz.isAgg0
  z0 := Tryz.sizeOf0
  v0 := Tryz.zeroValue0
  t3 := Tryz.underlying3
  a3 := Tryz.isAgg3
  z3 := Tryz.sizeOf3
  v3 := Tryz.zeroValue3
  t4 := Tryz.underlying4
  a4 := Tryz.isAgg4
  z4 := Tryz.sizeOf4
  v4 := Tryz.zeroValue4
  t5 := Tryz.underlying5
  a5 := Tryz.isAgg5
  z5 := Tryz.sizeOf5
  v5 := Tryz.zeroValue5
  t9 := Tryz.underlying9
  a9 := Tryz.isAgg9
  z9 := Tryz.sizeOf9
  v9 := Tryz.zeroValue9
  t46 := Tryz.underlying100
  a46 := Tryz.isAgg100
  z46 := Tryz.sizeOf100
  v46 := Tryz.zeroValue100
  t53 := Tryz.underlying85
  a53 := Tryz.isAgg85
  z53 := Tryz.sizeOf85
  v53 := Tryz.zeroValue85
  t212 := Tryz.underlying140
  a212 := Tryz.isAgg140
  z212 := Tryz.sizeOf140
  v212 := Tryz.zeroValue140
  g17 := by kernel_rfl
  i0 := by kernel_rfl
  i3 := by kernel_rfl
  i4 := by kernel_rfl
  i5 := by kernel_rfl
  i9 := by kernel_rfl
  i46 := by kernel_rfl
  i53 := by kernel_rfl
  i212 := by kernel_rfl
  m17 := by kernel_rfl }
open Go.Lib in
/-- internal/strconv.numDigits, at a d that is not 0: THE NUMBER OF d's DECIMAL DIGITS. The world is as it was. (LAID: no walk: one application.) -/
theorem Tryz.internal_strconv_numDigits (u : Nat) (h1 : 1 ≤ u) (h2 : u < 18446744073709551616) (w : World) (htab : Lib.TabIs Tryz.prog w "internal/strconv.uint64pow10" .u64 Lib.pow10Tab) :
    Calls Tryz.prog 67 #[.int .u64 u] w fun e w' => e = .returned (.int .i64 (Lib.nDigits u)) ∧ w' = w := Any.internal_strconv_numDigits Tryz.laysM284 u h1 h2 w htab
def Tryz.lays285_ren : Go.Shelf.Ren := ⟨fun | 285 => 68 | n => n, fun | 37 => 23 | 53 => 85 | 3 => 3 | 4 => 4 | 51 => 41 | 9 => 9 | 5 => 5 | 0 => 0 | n => n, fun | n => n⟩
theorem Tryz.lays285 : Go.Proofs.Lays.n285 Tryz.prog Tryz.lays285_ren := {
  mixed := by kernel_rfl
  f285 := Tryz.func68.trans (congrArg some (by kernel_rfl))
  t0 := Tryz.underlying0
  a0 := Tryz.isAgg0
  z0 := Tryz.sizeOf0
  v0 := Tryz.zeroValue0
  t3 := Tryz.underlying3
  a3 := Tryz.isAgg3
  z3 := Tryz.sizeOf3
  v3 := Tryz.zeroValue3
  t4 := Tryz.underlying4
  a4 := Tryz.isAgg4
  z4 := Tryz.sizeOf4
  v4 := Tryz.zeroValue4
  t5 := Tryz.underlying5
  a5 := Tryz.isAgg5
  z5 := Tryz.sizeOf5
  v5 := Tryz.zeroValue5
  t9 := Tryz.underlying9
  a9 := Tryz.isAgg9
  z9 := Tryz.sizeOf9
  v9 := Tryz.zeroValue9
  t37 := Tryz.underlying23
  a37 := Tryz.isAgg23
  z37 := Tryz.sizeOf23
  v37 := Tryz.zeroValue23
  t51 := Tryz.underlying41
  a51 := Tryz.isAgg41
  z51 := Tryz.sizeOf41
  v51 := Tryz.zeroValue41
  t53 := Tryz.underlying85
  a53 := Tryz.isAgg85
  z53 := Tryz.sizeOf85
  v53 := Tryz.zeroValue85 }
open Go.RowKit Go.Sort Go.Lib in
/-- internal/strconv.formatBase10: "formatBase10 formats the decimal representation of u into a. The caller is responsible for ensuring that a is big enough to hold u. If a is too big, leading zeros will be filled in as needed.": THE ROW HOLDS u's DIGITS ('FmtInv .. 0 ..': every place t holds 'dg u (len - 1 - t)'); all else is as it was but for the count of draws. (LAID: no walk: one application.) -/
theorem Tryz.internal_strconv_formatBase10 (blk off cap : Nat) (u : Nat) (d : Array UInt8) (w : World) (hH : Holds (fun (b : UInt8) => Value.int .u8 (b.toNat : Int)) w blk off d) (hu : u < 10 ^ d.size) (hu64 : u < 18446744073709551616) (hsz : d.size < 4611686018427387904) :
    Calls Tryz.prog 68 #[.slice (some ⟨blk, off, none⟩) d.size cap, .int .u64 u] w fun e w' =>
      e = .returned (.tuple #[]) ∧ ∃ (n v' : Nat) (dk : Array UInt8), w' = (putRow (fun (b : UInt8) => Value.int .u8 (b.toNat : Int)) w blk off dk).drewN n ∧ FmtInv d.size u 0 v' dk := Any.internal_strconv_formatBase10 Tryz.lays285 blk off cap u d w hH hu hu64 hsz
def Tryz.laysM246_ren : Go.Shelf.Ren := ⟨fun | 246 => 46 | 283 => 66 | 284 => 67 | 285 => 68 | 286 => 69 | 129 => 79 | 317 => 78 | 318 => 80 | 319 => 81 | 320 => 82 | 337 => 93 | 338 => 94 | n => n, fun | 2 => 2 | 3 => 3 | 9 => 9 | 4 => 4 | 171 => 123 | 0 => 0 | 53 => 85 | 37 => 23 | 5 => 5 | 173 => 126 | 212 => 140 | 51 => 41 | 20 => 20 | 213 => 141 | 46 => 100 | 232 => 173 | 233 => 174 | n => n, fun | 17 => 0 | 18 => 1 | 19 => 2 | n => n⟩
theorem Tryz.laysM246 : Go.Proofs.LaysM.n246 Tryz.prog Tryz.laysM246_ren := {
  mixed := by kernel_rfl
  f129 := Tryz.func79.trans (congrArg some (by kernel_rfl))
  f246 := Tryz.func46.trans (congrArg some (by kernel_rfl))
  f283 := Tryz.func66.trans (congrArg some (by kernel_rfl))
  f284 := Tryz.func67.trans (congrArg some (by kernel_rfl))
  f285 := Tryz.func68.trans (congrArg some (by kernel_rfl))
  f286 := Tryz.func69.trans (congrArg some (by kernel_rfl))
  f317 := Tryz.func78.trans (congrArg some (by kernel_rfl))
  f318 := Tryz.func80.trans (congrArg some (by kernel_rfl))
  f319 := Tryz.func81.trans (congrArg some (by kernel_rfl))
  f320 := Tryz.func82.trans (congrArg some (by kernel_rfl))
  f337 := Tryz.func93.trans (congrArg some (by kernel_rfl))
  f338 := Tryz.func94.trans (congrArg some (by kernel_rfl))
  t0 := Tryz.underlying0
  a0 := Tryz.isAgg0
  z0 := Tryz.sizeOf0
  v0 := Tryz.zeroValue0
  t2 := Tryz.underlying2
  a2 := Tryz.isAgg2
  z2 := Tryz.sizeOf2
  v2 := Tryz.zeroValue2
  t3 := Tryz.underlying3
  a3 := Tryz.isAgg3
  z3 := Tryz.sizeOf3
  v3 := Tryz.zeroValue3
  t4 := Tryz.underlying4
  a4 := Tryz.isAgg4
  z4 := Tryz.sizeOf4
  v4 := Tryz.zeroValue4
  t5 := Tryz.underlying5
  a5 := Tryz.isAgg5
  z5 := Tryz.sizeOf5
  v5 := Tryz.zeroValue5
  t9 := Tryz.underlying9
  a9 := Tryz.isAgg9
  z9 := Tryz.sizeOf9
  v9 := Tryz.zeroValue9
  t20 := Tryz.underlying20
  a20 := Tryz.isAgg20
  z20 := Tryz.sizeOf20
  v20 := Tryz.zeroValue20
  t37 := Tryz.underlying23
  a37 := Tryz.isAgg23
  z37 := Tryz.sizeOf23
  v37 := Tryz.zeroValue23
  t46 := Tryz.underlying100
  a46 := Tryz.isAgg100
  z46 := Tryz.sizeOf100
  v46 := Tryz.zeroValue100
  t51 := Tryz.underlying41
  a51 := Tryz.isAgg41
  z51 := Tryz.sizeOf41
  v51 := Tryz.zeroValue41
  t53 := Tryz.underlying85
  a53 := Tryz.isAgg85
  z53 := Tryz.sizeOf85
  v53 := Tryz.zeroValue85
  t171 := Tryz.underlying123
  a171 := Tryz.isAgg123
  z171 := Tryz.sizeOf123
  v171 := Tryz.zeroValue123
  t173 := Tryz.underlying126
  a173 := Tryz.isAgg126
  z173 := Tryz.sizeOf126
  v173 := Tryz.zeroValue126
  t212 := Tryz.underlying140
  a212 := Tryz.isAgg140
  z212 := Tryz.sizeOf140
  v212 := Tryz.zeroValue140
  t213 := Tryz.underlying141
  a213 := Tryz.isAgg141
  z213 := Tryz.sizeOf141
  t232 := Tryz.underlying173
  a232 := Tryz.isAgg173
  z232 := Tryz.sizeOf173
  v232 := Tryz.zeroValue173
  t233 := Tryz.underlying174
  a233 := Tryz.isAgg174
  z233 := Tryz.sizeOf174
  v233 := Tryz.zeroValue174
  g17 := by kernel_rfl
  g18 := by kernel_rfl
  g19 := by kernel_rfl
  i0 := by kernel_rfl
  i2 := by kernel_rfl
  i3 := by kernel_rfl
  i4 := by kernel_rfl
  i5 := by kernel_rfl
  i9 := by kernel_rfl
  i20 := by kernel_rfl
  i37 := by kernel_rfl
  i46 := by kernel_rfl
  i51 := by kernel_rfl
  i53 := by kernel_rfl
  i171 := by kernel_rfl
  i173 := by kernel_rfl
  i212 := by kernel_rfl
  i232 := by kernel_rfl
  i233 := by kernel_rfl
  m17 := by kernel_rfl
  m18 := by kernel_rfl
  m19 := by kernel_rfl }
open Go.RowKit Go.Sort Go.Lib in
/-- internal/strconv.FormatInt: "FormatInt returns the string representation of i in the given base": AT BASE 10: i's decimal numeral, for every int64. The world behind the call: the world before it, new blocks behind the heap, draws. (LAID: no walk: one application.) -/
theorem Tryz.internal_strconv_FormatInt_10 (n : Int) (h0 : -9223372036854775808 ≤ n) (h1 : n ≤ 9223372036854775807) (w : World) (htab : Lib.TabIs Tryz.prog w "internal/strconv.uint64pow10" .u64 Lib.pow10Tab) :
    Calls Tryz.prog 46 #[.int .i64 n, .int .i64 10] w fun e w' => e = .returned (.string ⟨(Lib.itoa n).toArray⟩) ∧ ∃ k os, w' = grow (w.drewN k) os := Any.internal_strconv_FormatInt_10 Tryz.laysM246 n h0 h1 w htab
end Go.Proofs

set_option linter.unusedVariables false
set_option linter.unusedSimpArgs false
namespace Go.Proofs.YtiapjjgmmiifmaaGreatDoor.Ab
open Go Go.RowKit
set_option maxHeartbeats 4000000
set_option maxRecDepth 100000
/-- The table of powers of ten lies in the world. -/
abbrev Ten (w : World) : Prop := Lib.TabIs Tryz.prog w "internal/strconv.uint64pow10" .u64 Lib.pow10Tab
theorem tab_at {P : Program} {w0 w : World} {G : Loc} {m : Mem} {name : String} {k : IntKind} {zs : List Int} (h : Lib.TabIs P w0 name k zs) (hs : St P w0 G m w) : Lib.TabIs P w name k zs := by
  unfold Lib.TabIs World.var? at h ⊢
  cases hg : P.globalNamed name with
  | none => rw [hg] at h; simp at h
  | some g =>
    rw [hg] at h
    simp only [Option.bind_some] at h ⊢
    have hlt : g < w0.heap.size := by
      rcases Nat.lt_or_ge g w0.heap.size with h' | h'
      · exact h'
      · rw [Array.getElem?_eq_none h'] at h; cases h
    rw [hs.below.block g hlt]; exact h
theorem tab_mem {P : Program} {W : World} {l : List (String × DataW Unit)} {name : String} {k : IntKind} {zs : List Int} {g : Nat} {t e : TypeId} {n : Nat} (h : laidMet P l W) (hm : (name, Lib.tabData k zs) ∈ l)
    (hg : P.globalNamed name = some g) (hty : (P.globals[g]?).map (·.type) = some t) (ht : P.underlying t = some (.array n e)) (he : P.underlying e = some (.int k)) (hce : P.cellsOf e = 1) (hct : P.cellsOf t = n) : Lib.TabIs P W name k zs := by
  obtain ⟨ps, hv, _⟩ := h
  obtain ⟨g', t', cs, fuel, p, h1, h2, h3, h4⟩ := laid_mem hv hm
  obtain rfl := Option.some.inj (hg.symm.trans h1)
  obtain rfl := Option.some.inj (hty.symm.trans h2)
  have hcs := Lib.cells_of_tab ht he hce hct h4
  unfold Lib.TabIs
  rw [h3]
  congr 1
  exact Array.ext' (by simpa using hcs)
theorem ten_of {W : World} {l : List (String × DataW Unit)} (h : laidMet Tryz.prog l W) (hm : ("internal/strconv.uint64pow10", Lib.tabData .u64 z10) ∈ l) : Ten W := by
  have e : Lib.pow10Tab = z10 := by kernel_rfl
  unfold Ten
  rw [e]
  exact tab_mem (g := 0) h hm (by kernel_rfl) (by kernel_rfl) Tryz.underlying140 Tryz.underlying85 (by kernel_rfl) (by kernel_rfl)
/-- A contract of plain values that only grows the world. -/
theorem c_calls {P : Program} {w0 : World} {m : Mem} {f : FuncId} {args : List Value} {v : Value} {Q : Value → Mem → Prop} (hcall : callOk P f = true) (ha : args.all (plainV 6) = true) (hv : plainV 6 v = true)
    (h : ∀ (G : Loc) (w : World), St P w0 G m w → Calls P f args.toArray w fun e w' => e = .returned v ∧ Below w.heap.size w w') (hq : Q v m) : AbC P w0 f args m Q := by
  intro G w args' hs hargs
  have ha' : ∀ u ∈ args, plainV 6 u = true := by simpa [List.all_eq_true] using ha
  have he : args' = args := VRs.plain_eq hargs fun u hu u' hr => VR.plain_eq 6 u u' (ha' u hu) hr
  subst he
  rw [run_callFunc_enter hcall]
  show Calls _ _ _ _ _
  refine (h G w hs).mono ?_
  rintro e w' ⟨rfl, hb⟩
  exact ⟨v, rfl, G, v, m, Loc.le_refl G, VR.plain 6 v hv, hs.grown hb, hq⟩
/-- A number as a text. -/
def numS (B : Nat) (i : Int) : List UInt8 := sgn (decide (i < 0)) ++ digs B i.natAbs
theorem dec_digs : ∀ u, Lib.decDigits u = digs 10 u := by
  intro u
  induction u using Nat.strongRecOn with
  | _ u ih =>
    rw [Lib.decDigits]
    split
    · rename_i h
      rw [digs_lt h]; simp [digC, h]
    · rename_i h
      rw [digs_ge (by omega) (by omega), ih (u / 10) (by omega)]
      simp [digC, Nat.mod_lt]
theorem itoa_numS (n : Int) : Lib.itoa n = numS 10 n := by
  unfold Lib.itoa numS sgn
  by_cases h : n < 0
  · simp [h, dec_digs]
  · have : n.toNat = n.natAbs := by omega
    simp [h, dec_digs, this]
theorem c_fmt10 {w0 : World} {m : Mem} {n : Int} {Q : Value → Mem → Prop} (ht : Ten w0) (hn : -9223372036854775808 ≤ n ∧ n ≤ 9223372036854775807) (hq : Q (.string ⟨⟨numS 10 n⟩⟩) m) :
    AbC Tryz.prog w0 46 [.int .i64 n, .int .i64 10] m Q := by
  refine c_calls (v := .string ⟨⟨numS 10 n⟩⟩) (by kernel_rfl) rfl rfl (fun G w hs => ?_) hq
  refine (Tryz.internal_strconv_FormatInt_10 n hn.1 hn.2 w (tab_at ht hs)).mono ?_
  rintro e w' ⟨rfl, k, os, rfl⟩
  exact ⟨by rw [itoa_numS], Lib.below_grow _ w (Nat.le_refl _) k os⟩
theorem c_fmtP {w0 : World} {m : Mem} {B k : Nat} {i : Int} {Q : Value → Mem → Prop} (hp : Part L0 m) (hB : B = 2 ^ k) (hk : 3 ≤ k ∧ k ≤ 5) (h10 : B ≠ 10) (hi : -9223372036854775808 ≤ i ∧ i ≤ 9223372036854775807)
    (h1 : outIs (.bool true) (callE tab (xCall xs) Tryz.prog 50 81 [.int .i64 (B : Int)] L0) = true)
    (h2 : outIs (.int .i64 (k : Int)) (callE tab (xCall xs) Tryz.prog 50 82 [.int .u64 (B : Int)] L0) = true)
    (hq : ∀ m', Old m m' → Q (.string ⟨⟨numS B i⟩⟩) m') : AbC Tryz.prog w0 46 [.int .i64 i, .int .i64 (B : Int)] m Q := by
  refine AbC_fn ok46 (by simp) ?_
  have f2 : (B : Int) ≠ 10 := by omega
  simp -implicitDefEqProofs (disch := first | assumption | (simp only [wnA]; done) | (simp only [wnA]; omega) | omega | fail) [rc46, ro46, wkA, retV, stabOk, dC, ev, fillD, pickCells, putAt, bnd, slD, List.getElem?_cons_zero, List.getElem?_cons_succ, dR.eq_20, Mem.cell, Mem.row, wmA, beqF f2, rc46_3]
  refine c_fmtBits (k := k) (a := i.natAbs) hp hB hk h10 (by omega) ?_ h1 h2 fun m' ho => ?_
  · by_cases hn : i < 0
    · simp only [hn, decide_true, if_true]
      congr 1; omega
    · simp only [hn, decide_false, Bool.false_eq_true, if_false]
      rw [IntWalk.u64_in _ (by omega)]; omega
  · simp -implicitDefEqProofs (disch := first | assumption | (simp only [wnA]; done) | (simp only [wnA]; omega) | omega | fail) [wkA, retV, stabOk, dC, ev, fillD, pickCells, putAt, bnd, slD, List.getElem?_cons_zero, List.getElem?_cons_succ, dR.eq_20, Mem.cell, Mem.row, wmA]
    exact hq m' ho
theorem pow8 : outIs (.bool true) (callE tab (xCall xs) Tryz.prog 50 81 [.int .i64 ((8 : Nat) : Int)] L0) = true := by kernel_rfl
theorem tz8 : outIs (.int .i64 ((3 : Nat) : Int)) (callE tab (xCall xs) Tryz.prog 50 82 [.int .u64 ((8 : Nat) : Int)] L0) = true := by kernel_rfl
theorem pow16 : outIs (.bool true) (callE tab (xCall xs) Tryz.prog 50 81 [.int .i64 ((16 : Nat) : Int)] L0) = true := by kernel_rfl
theorem tz16 : outIs (.int .i64 ((4 : Nat) : Int)) (callE tab (xCall xs) Tryz.prog 50 82 [.int .u64 ((16 : Nat) : Int)] L0) = true := by kernel_rfl
/-- strconv.FormatInt at 8, 10, 16. -/
theorem c_FormatInt {w0 : World} {m : Mem} {B : Nat} {i : Int} {Q : Value → Mem → Prop} (hp : Part L0 m) (ht : Ten w0) (hB : B = 8 ∨ B = 10 ∨ B = 16) (hi : -9223372036854775808 ≤ i ∧ i ≤ 9223372036854775807)
    (hq : ∀ m', Old m m' → Q (.string ⟨⟨numS B i⟩⟩) m') : AbC Tryz.prog w0 31 [.int .i64 i, .int .i64 (B : Int)] m Q := by
  refine AbC_fn ok31 (by simp) ?_
  simp -implicitDefEqProofs (disch := first | assumption | (simp only [wnA]; done) | (simp only [wnA]; omega) | omega | fail) [rc31, ro31, wkA, retV, stabOk, dC, ev, fillD, pickCells, putAt, bnd, slD, List.getElem?_cons_zero, List.getElem?_cons_succ, dR.eq_20, Mem.cell, Mem.row, wmA]
  have key : AbC Tryz.prog w0 46 [.int .i64 i, .int .i64 (B : Int)] m fun v m' => v = .string ⟨⟨numS B i⟩⟩ ∧ Old m m' := by
    rcases hB with rfl | rfl | rfl
    · exact c_fmtP hp (k := 3) rfl (by omega) (by omega) hi pow8 tz8 fun m' ho => ⟨rfl, ho⟩
    · exact c_fmt10 ht hi ⟨rfl, Old.refl m⟩
    · exact c_fmtP hp (k := 4) rfl (by omega) (by omega) hi pow16 tz16 fun m' ho => ⟨rfl, ho⟩
  refine key.mono ?_
  rintro v m' ⟨rfl, ho⟩
  simp -implicitDefEqProofs (disch := first | assumption | (simp only [wnA]; done) | (simp only [wnA]; omega) | omega | fail) [wkA, retV, stabOk, dC, ev, fillD, pickCells, putAt, bnd, slD, List.getElem?_cons_zero, List.getElem?_cons_succ, dR.eq_20, Mem.cell, Mem.row, wmA]
  exact hq m' ho
/-- How long a number's text is. -/
theorem numS_len {B : Nat} (hB : 2 ≤ B) {i : Int} {L : Nat} (hi : i.natAbs < B ^ L) (hL : 1 ≤ L) : (numS B i).length ≤ L + 1 := by
  have := digs_len hB L _ hi
  unfold numS sgn
  split <;> simp <;> omega
end Go.Proofs.YtiapjjgmmiifmaaGreatDoor.Ab

set_option linter.unusedVariables false
set_option linter.unusedSimpArgs false
namespace Go.Proofs.YtiapjjgmmiifmaaGreatDoor.Ab
open Go Go.RowKit
open Go.Sort (Holds putRow putCells onCells)
set_option maxHeartbeats 4000000
set_option maxRecDepth 100000
/-- The numeral is written into a row of zeros. -/
theorem c_fmtB10 {w0 : World} {m : Mem} {i n u : Nat} {cs : List Value} {E : TypeId} {Q : Value → Mem → Prop} (hg : m.get i = .own cs E) (hn : n = Lib.nDigits u) (hl : n ≤ cs.length) (hz : ∀ j, j < n → cs[j]? = some (.int .u8 0)) (hu : 1 ≤ u ∧ u < 18446744073709551616)
    (hq : Q (.tuple ⟨[]⟩) (m.set i (.own ((digs 10 u).map byteV ++ cs.drop n) E))) : AbC Tryz.prog w0 68 [.slice (some ⟨i, 0, none⟩) n 1, .int .u64 (u : Int)] m Q := by
  intro G w args' hs hargs
  have hnd : n ≤ 20 := by have := Lib.numDigits_eq u hu.1 hu.2; split at this <;> omega
  have hn1 : 1 ≤ n := by rw [hn, ← Lib.decDigits_length, dec_digs]; exact digs_pos _ _
  cases hargs with
  | cons _ a1 _ r1 h1 hr =>
  cases hr with
  | cons _ a2 _ r2 h2 hr =>
  cases hr
  cases h2
  cases h1 with
  | sl _ _ B b S _ cp _ hgi hnc hcm hS =>
  rw [run_callFunc_enter (by kernel_rfl)]
  show Calls _ _ _ _ _
  obtain ⟨hB, c, fz, hw, hcS, hop, hcell, hlen⟩ := own_get hs hgi hg
  have hlen := hlen (by omega)
  simp only [Nat.add_zero]
  have hH : Holds (fun (b : UInt8) => Value.int .u8 (b.toNat : Int)) w B b (Array.replicate n 0) := by
    intro j hj
    rw [Array.size_replicate] at hj
    obtain ⟨v', hv1, hv2⟩ := hcell j _ (hz j hj)
    cases hv2
    refine ⟨?_, cells_frozen hw hop _ (by omega)⟩
    simp only [World.cell?, hw, Option.isSome_none, Bool.false_eq_true, if_false, hv1]
    rw [getElem!_pos _ j (by simpa using hj), Array.getElem_replicate]; rfl
  have key := Tryz.internal_strconv_formatBase10 B b cp u (Array.replicate n 0) w hH (by rw [Array.size_replicate, hn]; exact Lib.lt_pow_nDigits u) hu.2 (by rw [Array.size_replicate]; omega)
  rw [Array.size_replicate] at key
  refine key.mono ?_
  rintro e w' ⟨rfl, k, v', dk, rfl, hF⟩
  have hdk : dk.size = n := hF.size
  have hst : St Tryz.prog w0 G (m.set i (.own ((digs 10 u).map byteV ++ cs.drop n) E)) ((putRow (fun (b : UInt8) => Value.int .u8 (b.toNat : Int)) w B b dk).drewN k) := by
    have hw' : ((putRow (fun (b : UInt8) => Value.int .u8 (b.toNat : Int)) w B b dk).drewN k).heap[B]? = some (.cells (putCells (fun (b : UInt8) => Value.int .u8 (b.toNat : Int)) b dk c) E fz) := by
      show (w.heap.modify B _)[B]? = _
      rw [Array.getElem?_modify]
      simp [hw, onCells]
    refine hs.write (e := .own ((digs 10 u).map byteV ++ cs.drop n) E) (by rw [hg]; rfl) hgi rfl rfl rfl (by simp [World.drewN]) (fun q hq => ?_) ⟨hB, _, fz, hw', by simp [putCells, hcS], by simpa [putCells] using hop, fun j v hj => ?_⟩ (fun cs' e' he => by cases he; exact ⟨cs, hg⟩)
    · show (w.heap.modify B _)[q]? = _
      rw [Array.getElem?_modify, if_neg (fun e => hq e.symm)]
    · have hdl : (digs 10 u).length = n := by rw [← dec_digs, Lib.decDigits_length, hn]
      rw [List.getElem?_append] at hj
      by_cases hjn : j < n
      · rw [if_pos (by simpa [hdl] using hjn), List.getElem?_map] at hj
        have hjd : j < (digs 10 u).length := by omega
        rw [List.getElem?_eq_getElem hjd] at hj
        simp at hj; subst hj
        refine ⟨_, ?_, .int _ _⟩
        have hjc : b + j < c.size := by omega
        have hnum := Lib.row_is_numeral (u := u) (v' := v') (dk := dk) (by rw [← hn]; exact hF) j (by rw [Lib.decDigits_length, ← hn]; exact hjn)
        have hd2 : (digs 10 u)[j] = dk[j]! := by rw [← hnum]; congr 1; exact (dec_digs u).symm
        simp only [putCells, Array.getElem?_mapIdx]
        rw [Array.getElem?_eq_getElem hjc]
        simp only [Option.map_some]
        rw [if_pos (by omega), Nat.add_sub_cancel_left, hd2]
      · rw [if_neg (by simpa [hdl] using hjn), List.length_map, hdl, List.getElem?_drop, show n + (j - n) = j from by omega] at hj
        obtain ⟨v2, hv1, hv2⟩ := hcell j v hj
        refine ⟨v2, ?_, hv2⟩
        simp only [putCells, Array.getElem?_mapIdx, hv1, Option.map_some]
        rw [if_neg (by omega)]
  exact ⟨_, rfl, G, _, _, Loc.le_refl G, .tuple _ _ .nil, hst, hq⟩
theorem bstr_pre {m : Mem} {i n : Nat} {E : TypeId} {l : List UInt8} {r : List Value} (h : m.get i = .own (l.map byteV ++ r) E) (hl : l.length = n) : bstr m (.slice (some ⟨i, 0, none⟩) n 1) = some (.string ⟨⟨l⟩⟩) := by
  subst hl
  have h1 : (l.map byteV ++ r).take l.length = l.map byteV := by
    rw [List.take_append_of_le_length (by simp)]; exact List.take_of_length_le (by simp)
  simp only [bstr, Mem.row_own h, Nat.zero_add, List.drop_zero, h1]
  rw [if_pos (by simp)]
  simp only [bytesOf_mapN]
theorem c_FormatUint {w0 : World} {m : Mem} {B u : Nat} {Q : Value → Mem → Prop} (hp : Part L0 m) (ht : Ten w0) (hB : B = 10 ∨ B = 16) (hu : u < 18446744073709551616) (hq : ∀ m', Old m m' → Q (.string ⟨⟨digs B u⟩⟩) m') : AbC Tryz.prog w0 34 [.int .u64 (u : Int), .int .i64 (B : Int)] m Q := by
  refine AbC_fn ok34 (by simp) ?_
  simp -implicitDefEqProofs (disch := first | assumption | (simp only [wnA]; done) | (simp only [wnA]; omega) | omega | fail) [rc34, ro34, wkA, retV, stabOk, dC, ev, fillD, pickCells, putAt, bnd, slD, List.getElem?_cons_zero, List.getElem?_cons_succ, dR_sl, Mem.cell, Mem.row, wmA]
  refine AbC_fn ok47 (by simp) ?_
  rcases hB with rfl | rfl
  · by_cases h100 : u < 100
    · have h1 : (u : Int) < 100 := by omega
      have w1 : IntKind.i64.wrap (u : Int) = (u : Int) := w64 (by omega)
      simp -implicitDefEqProofs (disch := first | assumption | (simp only [wnA]; done) | (simp only [wnA]; omega) | omega | fail) [rc47, ro47, wkA, retV, stabOk, dC, ev, fillD, pickCells, putAt, bnd, slD, List.getElem?_cons_zero, List.getElem?_cons_succ, dR_sl, Mem.cell, Mem.row, wmA, h1, w1]
      refine c_calls (v := .string ⟨⟨digs 10 u⟩⟩) (by kernel_rfl) rfl rfl (fun G w hs => ?_) ?_
      · refine (Tryz.internal_strconv_small u h100 w).mono ?_
        rintro e w' ⟨rfl, rfl⟩
        exact ⟨by rw [dec_digs], Below.refl _ _⟩
      · simp -implicitDefEqProofs (disch := first | assumption | (simp only [wnA]; done) | (simp only [wnA]; omega) | omega | fail) [wkA, retV, stabOk, dC, ev, fillD, pickCells, putAt, bnd, slD, List.getElem?_cons_zero, List.getElem?_cons_succ, dR_sl, Mem.cell, Mem.row, wmA]
        exact hq m (Old.refl m)
    · have h1 : ¬ (u : Int) < 100 := by omega
      have hnd : Lib.nDigits u ≤ 20 := by have := Lib.numDigits_eq u (by omega) hu; split at this <;> omega
      have hdl : (digs 10 u).length = Lib.nDigits u := by rw [← dec_digs, Lib.decDigits_length]
      have hn1 := digs_pos 10 u
      simp -implicitDefEqProofs (disch := first | assumption | (simp only [wnA]; done) | (simp only [wnA]; omega) | omega | fail) [rc47, ro47, rc47_0, wkA, retV, stabOk, dC, ev, fillD, pickCells, putAt, bnd, slD, List.getElem?_cons_zero, List.getElem?_cons_succ, dR_sl, Mem.cell, Mem.row, wmA, h1]
      refine c_calls (v := .int .i64 (Lib.nDigits u)) (by kernel_rfl) rfl rfl (fun G w hs => ?_) ?_
      · refine (Tryz.internal_strconv_numDigits u (by omega) hu w (tab_at ht hs)).mono ?_
        rintro e w' ⟨rfl, rfl⟩
        exact ⟨rfl, Below.refl _ _⟩
      · generalize hN : Lib.nDigits u = n at *
        have hi : (0 : Int) ≤ (n : Int) ∧ (n : Int) ≤ 24 := by omega
        have hn0 : n ≠ 0 := by omega
        have hn24 : n ≤ 24 := by omega
        simp -implicitDefEqProofs (disch := first | assumption | (simp only [wnA]; done) | (simp only [wnA]; omega) | omega | fail) [wkA, retV, stabOk, dC, ev, fillD, pickCells, putAt, bnd, slD, List.getElem?_cons_zero, List.getElem?_cons_succ, dR_sl, Mem.cell, Mem.row, wmA, hi, hn24]
        refine c_fmtB10 (Mem.push_same m _) hN.symm (by simp; omega) (fun j hj => ?_) ⟨by omega, hu⟩ ?_
        · have hj24 : j < 24 := by omega
          have : ∀ k : Fin 24, (List.replicate 24 (Value.int .u8 0))[k.val]? = some (Value.int .u8 0) := fun k => by rw [List.getElem?_replicate, if_pos k.isLt]
          exact this ⟨j, hj24⟩
        · have hgo : ∀ (M : Mem), M.get m.next = .own ((digs 10 u).map byteV ++ (List.replicate 24 (Value.int .u8 0)).drop n) 123 → (((digs 10 u).map byteV ++ (List.replicate 24 (Value.int .u8 0)).drop n).length = 24) → True := fun _ _ _ => trivial
          have hlen24 : ((digs 10 u).map byteV ++ (List.replicate 24 (Value.int .u8 0)).drop n).length = 24 := by
            rw [List.length_append, List.length_map, List.length_drop, List.length_replicate, hdl]; omega
          have ho : ∀ E1 E2, Old m ((m.push E1).set m.next E2) := fun E1 E2 => ((Old.refl m).push E1).set (Nat.le_refl _) E2
          have hbs : ∀ E1, bstr ((m.push E1).set m.next (.own ((digs 10 u).map byteV ++ (List.replicate 24 (Value.int .u8 0)).drop n) 123)) (.slice (some ⟨m.next, 0, none⟩) n 1) = some (.string ⟨⟨digs 10 u⟩⟩) := fun E1 => bstr_pre (Mem.set_same _ _ _) hdl
          have hrep : (List.replicate 24 (Value.int .u8 0)) = [.int .u8 0, .int .u8 0, .int .u8 0, .int .u8 0, .int .u8 0, .int .u8 0, .int .u8 0, .int .u8 0, .int .u8 0, .int .u8 0, .int .u8 0, .int .u8 0, .int .u8 0, .int .u8 0, .int .u8 0, .int .u8 0, .int .u8 0, .int .u8 0, .int .u8 0, .int .u8 0, .int .u8 0, .int .u8 0, .int .u8 0, .int .u8 0] := rfl
          rw [hrep] at hlen24 hbs
          generalize hR : (digs 10 u).map byteV ++ List.drop n [.int .u8 0, .int .u8 0, .int .u8 0, .int .u8 0, .int .u8 0, .int .u8 0, .int .u8 0, .int .u8 0, .int .u8 0, .int .u8 0, .int .u8 0, .int .u8 0, .int .u8 0, .int .u8 0, .int .u8 0, .int .u8 0, .int .u8 0, .int .u8 0, .int .u8 0, .int .u8 0, .int .u8 0, .int .u8 0, .int .u8 0, .int .u8 0] = R at *
          simp -implicitDefEqProofs (disch := first | assumption | (simp only [wnA]; done) | (simp only [wnA]; omega) | omega | fail) [wkA, retV, stabOk, dC, ev, fillD, pickCells, putAt, bnd, slD, List.getElem?_cons_zero, List.getElem?_cons_succ, dR_sl, Mem.cell, Mem.row, wmA, hi, hn24, hlen24, hbs]
          exact hq _ (ho _ _)
  · simp -implicitDefEqProofs (disch := first | assumption | (simp only [wnA]; done) | (simp only [wnA]; omega) | omega | fail) [rc47, ro47, wkA, retV, stabOk, dC, ev, fillD, pickCells, putAt, bnd, slD, List.getElem?_cons_zero, List.getElem?_cons_succ, dR_sl, Mem.cell, Mem.row, wmA, rc47_1]
    refine c_fmtBits (B := 16) (k := 4) (a := u) (neg := false) hp rfl (by omega) (by omega) hu (by simp) pow16 tz16 fun m' ho => ?_
    simp -implicitDefEqProofs (disch := first | assumption | (simp only [wnA]; done) | (simp only [wnA]; omega) | omega | fail) [wkA, retV, stabOk, dC, ev, fillD, pickCells, putAt, bnd, slD, List.getElem?_cons_zero, List.getElem?_cons_succ, dR_sl, Mem.cell, Mem.row, wmA]
    exact hq m' ho
end Go.Proofs.YtiapjjgmmiifmaaGreatDoor.Ab

set_option linter.unusedVariables false
set_option linter.unusedSimpArgs false
namespace Go.Proofs.YtiapjjgmmiifmaaGreatDoor.Ab
open Go Go.RowKit
section
variable {m : Mem}
theorem wf_u32 {n : Int} (h : (Lit.int .u32 n).wf = true) : 0 ≤ n ∧ n ≤ 4294967295 := by
  have : 0 ≤ n ∧ n ≤ 4294967295 := by simpa [Lit.wf, IntKind.min, IntKind.max, IntKind.signed, IntKind.bits] using h
  exact this
end
end Go.Proofs.YtiapjjgmmiifmaaGreatDoor.Ab

set_option linter.unusedVariables false
set_option linter.unusedSimpArgs false
namespace Go.Proofs.YtiapjjgmmiifmaaGreatDoor.Ab
open Go Go.RowKit
set_option maxHeartbeats 4000000
set_option maxRecDepth 100000
theorem catB (a b : List UInt8) (h : a.length + b.length ≤ 9223372036854775807) : dBin .add (.string ⟨⟨a⟩⟩) (.string ⟨⟨b⟩⟩) = some (.string ⟨⟨a ++ b⟩⟩) := by
  have e : (ByteArray.mk ⟨a⟩) ++ (ByteArray.mk ⟨b⟩) = ⟨⟨a ++ b⟩⟩ := by
    apply ByteArray.ext
    simp
  rw [dBin_sadd (by show a.length + b.length ≤ _; omega), e]
theorem catE (a b : List UInt8) (h : a.length + b.length ≤ 9223372036854775807) : ∃ e : List UInt8, a ++ b = e ∧ e.length = a.length + b.length ∧ dBin .add (.string ⟨⟨a⟩⟩) (.string ⟨⟨b⟩⟩) = some (.string ⟨⟨e⟩⟩) := ⟨_, rfl, by simp, catB a b h⟩
theorem hex_sub : ∀ k : Fin 16, (ByteArray.mk #[48, 49, 50, 51, 52, 53, 54, 55, 56, 57, 97, 98, 99, 100, 101, 102]).extract k.val (k.val + 1) = ⟨⟨[digC k.val]⟩⟩ := by decide +kernel
theorem numS_nat (B n : Nat) : numS B (n : Int) = digs B n := by
  unfold numS sgn
  rw [if_neg (by simp)]
  simp
theorem c_hexN {w0 : World} {m : Mem} : ∀ (n : Nat), n ≤ 9223372036854775807 → ∀ {Q : Value → Mem → Prop}, Q (.string ⟨⟨digs 16 n⟩⟩) m → AbC Tryz.prog w0 21 [.int .i64 (n : Int)] m Q := by
  intro n
  induction n using Nat.strongRecOn with
  | _ n ih =>
    intro hn Q hq
    refine AbC_fn ok21 (by simp) ?_
    have f0 : (0 : Int) ≤ (n : Int) := by omega
    simp -implicitDefEqProofs (disch := first | assumption | (simp only [wnA]; done) | (simp only [wnA]; omega) | omega | fail) [rc21, ro21, wkA, retV, stabOk, dC, ev, fillD, pickCells, putAt, bnd, slD, List.getElem?_cons_zero, List.getElem?_cons_succ, dR.eq_20, Mem.cell, Mem.row, wmA]
    by_cases hb : n < 16
    · have hb' : (n : Int) < (16 : Int) := by omega
      have hs := hex_sub ⟨n, hb⟩
      simp only at hs
      have hw : IntKind.i64.wrap ((n : Int) + 1) = ((n + 1 : Nat) : Int) := by rw [w64 (by omega)]; omega
      have hsz : (ByteArray.mk #[48, 49, 50, 51, 52, 53, 54, 55, 56, 57, 97, 98, 99, 100, 101, 102]).size = 16 := rfl
      have p1 : (0 : Int) ≤ (n : Int) + 1 ∧ (n : Int) + 1 ≤ 16 := by omega
      have p3 : (n : Int) ≤ (n : Int) + 1 := by omega
      rw [digs_lt hb] at hq
      generalize digC n = c at *
      simp -implicitDefEqProofs (disch := first | assumption | (simp only [wnA]; done) | (simp only [wnA]; omega) | omega | fail) [wkA, retV, stabOk, dC, ev, fillD, pickCells, putAt, bnd, slD, List.getElem?_cons_zero, List.getElem?_cons_succ, dR.eq_20, Mem.cell, Mem.row, wmA, ltT hb', hb, hw, hsz, p1, p3, hs]
      exact hq
    · have hb' : ¬ (n : Int) < (16 : Int) := by omega
      have hB0 : (16 : Int) ≠ 0 := by omega
      have hd : (n : Int).tdiv (16 : Int) = ((n / 16 : Nat) : Int) := by rw [Int.tdiv_eq_ediv_of_nonneg (by omega)]; rfl
      have hm : (n : Int).tmod (16 : Int) = ((n % 16 : Nat) : Int) := by rw [Int.tmod_eq_emod_of_nonneg (by omega)]; rfl
      have h1 : n / 16 < n := Nat.div_lt_self (by omega) (by omega)
      have h2 : n % 16 < 16 := Nat.mod_lt _ (by omega)
      have hDle : n / 16 ≤ n := Nat.div_le_self _ _
      have hwd : IntKind.i64.wrap ((n / 16 : Nat) : Int) = ((n / 16 : Nat) : Int) := by
        generalize n / 16 = D at hDle ⊢
        exact w64 (by omega)
      have l1 := digs_64 (b := 16) (by omega) (show n / 16 < 18446744073709551616 by omega)
      have hdl : (digs 16 (n % 16)).length = 1 := by rw [digs_lt h2]; rfl
      have hcat := catB (digs 16 (n / 16)) (digs 16 (n % 16)) (by omega)
      have q1 : dBin .quo (.int .i64 (n : Int)) (.int .i64 (16 : Int)) = some (.int .i64 ((n / 16 : Nat) : Int)) := by rw [dBin_quo hB0, hd, hwd]
      have q2 : dBin .rem (.int .i64 (n : Int)) (.int .i64 (16 : Int)) = some (.int .i64 ((n % 16 : Nat) : Int)) := by rw [dBin_rem hB0, hm]
      have hge : digs 16 n = digs 16 (n / 16) ++ digs 16 (n % 16) := by rw [digs_ge (by omega) (by omega), digs_lt h2]
      rw [hge] at hq
      generalize hD : n / 16 = D at *
      generalize hM : n % 16 = M at *
      simp -implicitDefEqProofs (disch := first | assumption | (simp only [wnA]; done) | (simp only [wnA]; omega) | omega | fail) [wkA, retV, stabOk, dC, ev, fillD, pickCells, putAt, bnd, slD, List.getElem?_cons_zero, List.getElem?_cons_succ, dR.eq_20, Mem.cell, Mem.row, wmA, hb, hb', q1, q2, rc21_0]
      refine ih D h1 (by omega) ?_
      simp -implicitDefEqProofs (disch := first | assumption | (simp only [wnA]; done) | (simp only [wnA]; omega) | omega | fail) [wkA, retV, stabOk, dC, ev, fillD, pickCells, putAt, bnd, slD, List.getElem?_cons_zero, List.getElem?_cons_succ, dR.eq_20, Mem.cell, Mem.row, wmA, q2]
      refine ih M (by omega) (by omega) ?_
      simp -implicitDefEqProofs (disch := first | assumption | (simp only [wnA]; done) | (simp only [wnA]; omega) | omega | fail) [wkA, retV, stabOk, dC, ev, fillD, pickCells, putAt, bnd, slD, List.getElem?_cons_zero, List.getElem?_cons_succ, dR.eq_20, Mem.cell, Mem.row, wmA, hcat]
      exact hq
def sumW : List UInt8 := [115, 117, 109, 32]
def loadW : List UInt8 := [108, 111, 97, 100, 32]
def lineL (a n : Int) (p : Nat) : List UInt8 := sumW ++ numS 16 a ++ [32] ++ numS 16 n ++ [32] ++ digs 16 p ++ [13, 10]
def askL (a n : Int) : List UInt8 := sumW ++ numS 16 a ++ [32] ++ numS 16 n ++ [13]
def wayL (k : Nat) : List UInt8 := if k = 0 then [99, 104, 101, 99, 107] else if k = 1 then [99, 114, 99] else if k = 2 then [108, 97, 114, 103, 101] else [98, 97, 116, 99, 104]
def wayN (w : Int) : Nat := if w ≤ 0 then 0 else if w = 1 then 1 else if w = 2 then 2 else 3
def loadL (k : Nat) (a : Int) : List UInt8 := loadW ++ wayL k ++ [32] ++ numS 16 a ++ [13]
theorem num16 {i : Int} (hi : -9223372036854775808 ≤ i ∧ i ≤ 9223372036854775807) : (numS 16 i).length ≤ 17 := numS_len (by omega) (L := 16) (by omega) (by omega)
theorem c_Ask {w0 : World} {m : Mem} {a n : Int} {Q : Value → Mem → Prop} (hp : Part L0 m) (ht : Ten w0) (ha : -9223372036854775808 ≤ a ∧ a ≤ 9223372036854775807) (hn : -9223372036854775808 ≤ n ∧ n ≤ 9223372036854775807)
    (hq : ∀ m', Old m m' → Q (.string ⟨⟨askL a n⟩⟩) m') : AbC Tryz.prog w0 13 [.int .i64 a, .int .i64 n] m Q := by
  refine AbC_fn ok13 (by simp) ?_
  have la := num16 ha
  have ln := num16 hn
  unfold askL sumW at hq
  simp -implicitDefEqProofs (disch := first | assumption | (simp only [wnA]; done) | (simp only [wnA]; omega) | omega | fail) [rc13, ro13, wkA, retV, stabOk, dC, ev, fillD, pickCells, putAt, bnd, slD, List.getElem?_cons_zero, List.getElem?_cons_succ, dR.eq_20, Mem.cell, Mem.row, wmA]
  refine c_FormatInt (B := 16) hp ht (by omega) ha fun m1 o1 => ?_
  generalize numS 16 a = A at *
  obtain ⟨E1, hE1, l1, k1⟩ := catE [115, 117, 109, 32] A (by simp; omega)
  simp only [List.length_cons, List.length_nil] at l1
  obtain ⟨E2, hE2, l2, k2⟩ := catE E1 [32] (by simp; omega)
  simp only [List.length_cons, List.length_nil] at l2
  have k1 : dBin .add (.string ⟨#[115, 117, 109, 32]⟩) (.string ⟨⟨A⟩⟩) = some (.string ⟨⟨E1⟩⟩) := k1
  have k2 : dBin .add (.string ⟨⟨E1⟩⟩) (.string ⟨#[32]⟩) = some (.string ⟨⟨E2⟩⟩) := k2
  rw [hE1, hE2] at hq
  simp -implicitDefEqProofs (disch := first | assumption | (simp only [wnA]; done) | (simp only [wnA]; omega) | omega | fail) [wkA, retV, stabOk, dC, ev, fillD, pickCells, putAt, bnd, slD, List.getElem?_cons_zero, List.getElem?_cons_succ, dR.eq_20, Mem.cell, Mem.row, wmA, k1, k2]
  refine c_FormatInt (B := 16) (Old.part hp o1) ht (by omega) hn fun m2 o2 => ?_
  generalize numS 16 n = Z at *
  obtain ⟨E3, hE3, l3, k3⟩ := catE E2 Z (by omega)
  obtain ⟨E4, hE4, l4, k4⟩ := catE E3 [13] (by simp; omega)
  have k4 : dBin .add (.string ⟨⟨E3⟩⟩) (.string ⟨#[13]⟩) = some (.string ⟨⟨E4⟩⟩) := k4
  rw [hE3, hE4] at hq
  simp -implicitDefEqProofs (disch := first | assumption | (simp only [wnA]; done) | (simp only [wnA]; omega) | omega | fail) [wkA, retV, stabOk, dC, ev, fillD, pickCells, putAt, bnd, slD, List.getElem?_cons_zero, List.getElem?_cons_succ, dR.eq_20, Mem.cell, Mem.row, wmA, k3, k4]
  exact hq _ (o1.trans o2)
theorem c_Line {w0 : World} {m : Mem} {a n : Int} {p : Nat} {Q : Value → Mem → Prop} (hp : Part L0 m) (ht : Ten w0) (ha : -9223372036854775808 ≤ a ∧ a ≤ 9223372036854775807) (hn : -9223372036854775808 ≤ n ∧ n ≤ 9223372036854775807) (hpp : p < 4294967296)
    (hq : ∀ m', Old m m' → Q (.string ⟨⟨lineL a n p⟩⟩) m') : AbC Tryz.prog w0 17 [.agg ⟨[.int .i64 a, .int .i64 n, .int .u32 (p : Int)]⟩] m Q := by
  refine AbC_fn ok17 (by simp) ?_
  have la := num16 ha
  have ln := num16 hn
  have lp := digs_64 (b := 16) (by omega) (show p < 18446744073709551616 by omega)
  unfold lineL sumW at hq
  have w1 : IntKind.u64.wrap (p : Int) = (p : Int) := by rw [IntWalk.u64_in]; omega
  have hp1 : Part L0 (m.push (.own [.int .i64 a, .int .i64 n, .int .u32 (p : Int)] 44)) := Old.part hp ((Old.refl m).push _)
  simp -implicitDefEqProofs (disch := first | assumption | (simp only [wnA]; done) | (simp only [wnA]; omega) | omega | fail) [rc17, ro17, wkA, retV, stabOk, dC, ev, fillD, pickCells, putAt, bnd, slD, List.getElem?_cons_zero, List.getElem?_cons_succ, dR.eq_20, Mem.cell, Mem.row, wmA, w1]
  refine c_FormatInt (B := 16) hp1 ht (by omega) ha fun m1 o1 => ?_
  have g1 : m1.get m.next = .own [.int .i64 a, .int .i64 n, .int .u32 (p : Int)] 44 := by rw [o1.2 _ (by simp)]; simp
  generalize numS 16 a = A at *
  obtain ⟨E1, hE1, l1, k1⟩ := catE [115, 117, 109, 32] A (by simp; omega)
  simp only [List.length_cons, List.length_nil] at l1
  obtain ⟨E2, hE2, l2, k2⟩ := catE E1 [32] (by simp; omega)
  simp only [List.length_cons, List.length_nil] at l2
  have k1 : dBin .add (.string ⟨#[115, 117, 109, 32]⟩) (.string ⟨⟨A⟩⟩) = some (.string ⟨⟨E1⟩⟩) := k1
  have k2 : dBin .add (.string ⟨⟨E1⟩⟩) (.string ⟨#[32]⟩) = some (.string ⟨⟨E2⟩⟩) := k2
  rw [hE1, hE2] at hq
  simp -implicitDefEqProofs (disch := first | assumption | (simp only [wnA]; done) | (simp only [wnA]; omega) | omega | fail) [wkA, retV, stabOk, dC, ev, fillD, pickCells, putAt, bnd, slD, List.getElem?_cons_zero, List.getElem?_cons_succ, dR.eq_20, Mem.cell, Mem.row, wmA, k1, k2, g1]
  refine c_FormatInt (B := 16) (Old.part hp1 o1) ht (by omega) hn fun m2 o2 => ?_
  have g2 : m2.get m.next = .own [.int .i64 a, .int .i64 n, .int .u32 (p : Int)] 44 := by
    have : m.next < m1.next := Nat.lt_of_lt_of_le (by simp) o1.1
    rw [o2.2 _ this]; exact g1
  generalize numS 16 n = Z at *
  obtain ⟨E3, hE3, l3, k3⟩ := catE E2 Z (by omega)
  obtain ⟨E4, hE4, l4, k4⟩ := catE E3 [32] (by simp; omega)
  simp only [List.length_cons, List.length_nil] at l4
  have k4 : dBin .add (.string ⟨⟨E3⟩⟩) (.string ⟨#[32]⟩) = some (.string ⟨⟨E4⟩⟩) := k4
  rw [hE3, hE4] at hq
  simp -implicitDefEqProofs (disch := first | assumption | (simp only [wnA]; done) | (simp only [wnA]; omega) | omega | fail) [wkA, retV, stabOk, dC, ev, fillD, pickCells, putAt, bnd, slD, List.getElem?_cons_zero, List.getElem?_cons_succ, dR.eq_20, Mem.cell, Mem.row, wmA, k3, k4, g2, w1]
  refine c_FormatUint (B := 16) (Old.part (Old.part hp1 o1) o2) ht (by omega) (by omega) fun m3 o3 => ?_
  generalize digs 16 p = Y at *
  obtain ⟨E5, hE5, l5, k5⟩ := catE E4 Y (by omega)
  obtain ⟨E6, hE6, l6, k6⟩ := catE E5 [13, 10] (by simp; omega)
  have k6 : dBin .add (.string ⟨⟨E5⟩⟩) (.string ⟨#[13, 10]⟩) = some (.string ⟨⟨E6⟩⟩) := k6
  rw [hE5, hE6] at hq
  simp -implicitDefEqProofs (disch := first | assumption | (simp only [wnA]; done) | (simp only [wnA]; omega) | omega | fail) [wkA, retV, stabOk, dC, ev, fillD, pickCells, putAt, bnd, slD, List.getElem?_cons_zero, List.getElem?_cons_succ, dR.eq_20, Mem.cell, Mem.row, wmA, k5, k6]
  exact hq _ ((((Old.refl m).push _).trans o1).trans (o2.trans o3))
theorem way_k (w : Int) : ∃ k : Nat, k < 4 ∧ wayN w = k ∧ (if (0 : Int) < (if (3 : Int) < w then 3 else w) then (if (3 : Int) < w then 3 else w) else 0) = (k : Int) := by
  unfold wayN
  by_cases h0 : w ≤ 0
  · exact ⟨0, by omega, by rw [if_pos h0], by split <;> split <;> omega⟩
  by_cases h1 : w = 1
  · subst h1; exact ⟨1, by omega, by simp, by simp⟩
  by_cases h2 : w = 2
  · subst h2; exact ⟨2, by omega, by simp, by simp⟩
  · exact ⟨3, by omega, by rw [if_neg h0, if_neg h1, if_neg h2], by split <;> split <;> omega⟩
def waysC : List Value := [.string ⟨⟨wayL 0⟩⟩, .string ⟨⟨wayL 1⟩⟩, .string ⟨⟨wayL 2⟩⟩, .string ⟨⟨wayL 3⟩⟩]
theorem ways_at {k : Nat} (hk : k < 4) : waysC[k]? = some (.string ⟨⟨wayL k⟩⟩) := by
  rcases (show k = 0 ∨ k = 1 ∨ k = 2 ∨ k = 3 by omega) with rfl | rfl | rfl | rfl <;> rfl
theorem c_Ways {w0 : World} {m : Mem} {Q : Value → Mem → Prop} (hq : Q (.slice (some ⟨m.next, 0, none⟩) 4 1) (m.push (.own waysC 9))) : AbC Tryz.prog w0 35 [] m Q := by
  refine AbC_fn ok35 (by simp) ?_
  simp -implicitDefEqProofs (disch := first | assumption | (simp only [wnA]; done) | (simp only [wnA]; omega) | omega | fail) [rc35, ro35, wkA, retV, stabOk, dC, ev, fillD, pickCells, putAt, bnd, slD, List.getElem?_cons_zero, List.getElem?_cons_succ, dR.eq_20, Mem.cell, Mem.row, wmA]
  rw [SK_bsl (cs := waysC) (by simp [fillD, pickCells, wkA, retV, stabOk, dC, ev, fillD, pickCells, putAt, bnd, slD, List.getElem?_cons_zero, List.getElem?_cons_succ, dR.eq_20, waysC, wayL]) rfl]
  simp -implicitDefEqProofs (disch := first | assumption | (simp only [wnA]; done) | (simp only [wnA]; omega) | omega | fail) [wkA, retV, stabOk, dC, ev, fillD, pickCells, putAt, bnd, slD, List.getElem?_cons_zero, List.getElem?_cons_succ, dR.eq_20, Mem.cell, Mem.row, wmA]
  exact hq
theorem c_Load {w0 : World} {m : Mem} {w a : Int} {Q : Value → Mem → Prop} (hp : Part L0 m) (ht : Ten w0) (ha : -9223372036854775808 ≤ a ∧ a ≤ 9223372036854775807)
    (hq : ∀ m', Old m m' → Q (.string ⟨⟨loadL (wayN w) a⟩⟩) m') : AbC Tryz.prog w0 18 [.int .i64 w, .int .i64 a] m Q := by
  refine AbC_fn ok18 (by simp) ?_
  have la := num16 ha
  unfold loadL loadW at hq
  obtain ⟨k, hk, hk1, hk2⟩ := way_k w
  rw [hk1] at hq
  simp -implicitDefEqProofs (disch := first | assumption | (simp only [wnA]; done) | (simp only [wnA]; omega) | omega | fail) [rc18, ro18, wkA, retV, stabOk, dC, ev, fillD, pickCells, putAt, bnd, slD, List.getElem?_cons_zero, List.getElem?_cons_succ, dR.eq_20, Mem.cell, Mem.row, wmA, hk2]
  refine c_Ways ?_
  have hidx : sidx 1 (.slice (some ⟨m.next, 0, none⟩) 4 1) (.int .i64 (k : Int)) = some (.pointer (some ⟨m.next, 0 + k * 1, none⟩)) := sidx_at hk
  have hat := ways_at hk
  have hw : (wayL k).length ≤ 5 := by rcases (show k = 0 ∨ k = 1 ∨ k = 2 ∨ k = 3 by omega) with rfl | rfl | rfl | rfl <;> decide
  have hg : (m.push (.own waysC 9)).get m.next = .own waysC 9 := by simp
  have hp1 : Part L0 (m.push (.own waysC 9)) := Old.part hp ((Old.refl m).push _)
  have o0 : Old m (m.push (.own waysC 9)) := (Old.refl m).push _
  have hm : m.next < (m.push (.own waysC 9)).next := by simp
  generalize m.push (.own waysC 9) = m0 at *
  generalize wayL k = W at *
  generalize waysC = C at *
  obtain ⟨E1, hE1, l1, k1⟩ := catE [108, 111, 97, 100, 32] W (by simp; omega)
  simp only [List.length_cons, List.length_nil] at l1
  obtain ⟨E2, hE2, l2, k2⟩ := catE E1 [32] (by simp; omega)
  simp only [List.length_cons, List.length_nil] at l2
  have k1 : dBin .add (.string ⟨#[108, 111, 97, 100, 32]⟩) (.string ⟨⟨W⟩⟩) = some (.string ⟨⟨E1⟩⟩) := k1
  have k2 : dBin .add (.string ⟨⟨E1⟩⟩) (.string ⟨#[32]⟩) = some (.string ⟨⟨E2⟩⟩) := k2
  rw [hE1, hE2] at hq
  have hidx : sidx 1 (.slice (some ⟨m.next, 0, none⟩) 4 1) (.int .i64 (k : Int)) = some (.pointer (some ⟨m.next, k, none⟩)) := by rw [hidx]; simp
  obtain ⟨hlt, hat'⟩ := List.getElem?_eq_some_iff.1 hat
  simp -implicitDefEqProofs (disch := first | assumption | (simp only [wnA]; done) | (simp only [wnA]; omega) | omega | fail) [wkA, retV, stabOk, dC, ev, fillD, pickCells, putAt, bnd, slD, List.getElem?_cons_zero, List.getElem?_cons_succ, dR.eq_20, Mem.cell, Mem.row, wmA, hk2, hidx, hg, hat, hat', hlt, k1, k2]
  refine c_FormatInt (B := 16) hp1 ht (by omega) ha fun m1 o1 => ?_
  have g1 : m1.get m.next = .own C 9 := by rw [o1.2 _ hm]; exact hg
  generalize numS 16 a = A at *
  obtain ⟨E3, hE3, l3, k3⟩ := catE E2 A (by omega)
  obtain ⟨E4, hE4, l4, k4⟩ := catE E3 [13] (by simp; omega)
  have k4 : dBin .add (.string ⟨⟨E3⟩⟩) (.string ⟨#[13]⟩) = some (.string ⟨⟨E4⟩⟩) := k4
  rw [hE3, hE4] at hq
  simp -implicitDefEqProofs (disch := first | assumption | (simp only [wnA]; done) | (simp only [wnA]; omega) | omega | fail) [wkA, retV, stabOk, dC, ev, fillD, pickCells, putAt, bnd, slD, List.getElem?_cons_zero, List.getElem?_cons_succ, dR.eq_20, Mem.cell, Mem.row, wmA, k3, k4, g1, hat, hat', hlt]
  exact hq _ (o0.trans o1)
end Go.Proofs.YtiapjjgmmiifmaaGreatDoor.Ab

set_option linter.unusedVariables false
set_option linter.unusedSimpArgs false
namespace Go.Proofs.YtiapjjgmmiifmaaGreatDoor.Ab
open Go Go.RowKit
set_option maxHeartbeats 4000000
set_option maxRecDepth 100000
theorem l_Lines {w0 : World} {m : Mem} {a n p : Nat} {w : Int} (ha : a < 4294967296) (hn : n < 4294967296) (hpp : p < 4294967296) (hp : Part L0 m) (ht : Ten w0) :
    AbC Tryz.prog w0 5 [.int .u32 (a : Int), .int .u32 (n : Int), .int .u32 (p : Int), .int .i64 w] m fun v _ => v = .bool true := by
  refine AbC_fn ok5 (by simp) ?_
  have wa : IntKind.i64.wrap (a : Int) = (a : Int) := w64 (by omega)
  have wn : IntKind.i64.wrap (n : Int) = (n : Int) := w64 (by omega)
  have wp : IntKind.i64.wrap (p : Int) = (p : Int) := w64 (by omega)
  simp -implicitDefEqProofs (disch := first | assumption | (simp only [wnA]; done) | (simp only [wnA]; omega) | omega | fail) [rc5, ro5, wkA, retV, stabOk, dC, ev, fillD, pickCells, putAt, bnd, slD, List.getElem?_cons_zero, List.getElem?_cons_succ, dR.eq_20, Mem.cell, Mem.row, wmA]
  refine c_awake hp ?_
  simp -implicitDefEqProofs (disch := first | assumption | (simp only [wnA]; done) | (simp only [wnA]; omega) | omega | fail) [wkA, retV, stabOk, dC, ev, fillD, pickCells, putAt, bnd, slD, List.getElem?_cons_zero, List.getElem?_cons_succ, dR.eq_20, Mem.cell, Mem.row, wmA, rc5_0, wa, wn, wp]
  refine c_hexN a (by omega) ?_
  simp -implicitDefEqProofs (disch := first | assumption | (simp only [wnA]; done) | (simp only [wnA]; omega) | omega | fail) [wkA, retV, stabOk, dC, ev, fillD, pickCells, putAt, bnd, slD, List.getElem?_cons_zero, List.getElem?_cons_succ, dR.eq_20, Mem.cell, Mem.row, wmA, wn, wp]
  refine c_hexN n (by omega) ?_
  simp -implicitDefEqProofs (disch := first | assumption | (simp only [wnA]; done) | (simp only [wnA]; omega) | omega | fail) [wkA, retV, stabOk, dC, ev, fillD, pickCells, putAt, bnd, slD, List.getElem?_cons_zero, List.getElem?_cons_succ, dR.eq_20, Mem.cell, Mem.row, wmA, wp]
  refine c_hexN p (by omega) ?_
  obtain ⟨k, hk, hk1, hk2⟩ := way_k w
  have eA := numS_nat 16 a
  have eN := numS_nat 16 n
  have la := digs_64 (b := 16) (by omega) (show a < 18446744073709551616 by omega)
  have ln := digs_64 (b := 16) (by omega) (show n < 18446744073709551616 by omega)
  have lp := digs_64 (b := 16) (by omega) (show p < 18446744073709551616 by omega)
  have xL : lineL (a : Int) (n : Int) p = sumW ++ digs 16 a ++ [32] ++ digs 16 n ++ [32] ++ digs 16 p ++ [13, 10] := by unfold lineL; rw [eA, eN]
  have xA : askL (a : Int) (n : Int) = sumW ++ digs 16 a ++ [32] ++ digs 16 n ++ [13] := by unfold askL; rw [eA, eN]
  have xD : loadL (wayN w) (a : Int) = loadW ++ wayL k ++ [32] ++ digs 16 a ++ [13] := by unfold loadL; rw [eA, hk1]
  generalize digs 16 a = A at *
  generalize digs 16 n = Z at *
  generalize digs 16 p = Y at *
  simp -implicitDefEqProofs (disch := first | assumption | (simp only [wnA]; done) | (simp only [wnA]; omega) | omega | fail) [wkA, retV, stabOk, dC, ev, fillD, pickCells, putAt, bnd, slD, List.getElem?_cons_zero, List.getElem?_cons_succ, dR.eq_20, Mem.cell, Mem.row, wmA]
  rw [SK_bsl (cs := waysC) (by simp [fillD, pickCells, wkA, retV, stabOk, dC, ev, fillD, pickCells, putAt, bnd, slD, List.getElem?_cons_zero, List.getElem?_cons_succ, dR.eq_20, waysC, wayL]) rfl]
  have hidx : sidx 1 (.slice (some ⟨m.next, 0, none⟩) 4 1) (.int .i64 (k : Int)) = some (.pointer (some ⟨m.next, k, none⟩)) := by rw [sidx_at hk]; simp
  have hat := ways_at hk
  have hw : (wayL k).length ≤ 5 := by rcases (show k = 0 ∨ k = 1 ∨ k = 2 ∨ k = 3 by omega) with rfl | rfl | rfl | rfl <;> decide
  have hg : (m.push (.own waysC 9)).get m.next = .own waysC 9 := by simp
  have hp1 : Part L0 (m.push (.own waysC 9)) := Old.part hp ((Old.refl m).push _)
  generalize m.push (.own waysC 9) = m0 at *
  generalize wayL k = W at *
  generalize waysC = C at *
  obtain ⟨hlt, hat'⟩ := List.getElem?_eq_some_iff.1 hat
  unfold sumW at xL xA
  unfold loadW at xD
  obtain ⟨E1, hE1, l1, k1⟩ := catE [115, 117, 109, 32] A (by simp; omega)
  simp only [List.length_cons, List.length_nil] at l1
  obtain ⟨E2, hE2, l2, k2⟩ := catE E1 [32] (by simp; omega)
  simp only [List.length_cons, List.length_nil] at l2
  obtain ⟨E3, hE3, l3, k3⟩ := catE E2 Z (by omega)
  obtain ⟨E4, hE4, l4, k4⟩ := catE E3 [32] (by simp; omega)
  simp only [List.length_cons, List.length_nil] at l4
  obtain ⟨E5, hE5, l5, k5⟩ := catE E4 Y (by omega)
  obtain ⟨E6, hE6, l6, k6⟩ := catE E5 [13, 10] (by simp; omega)
  obtain ⟨E7, hE7, l7, k7⟩ := catE E3 [13] (by simp; omega)
  obtain ⟨F1, hF1, m1, j1⟩ := catE [108, 111, 97, 100, 32] W (by simp; omega)
  simp only [List.length_cons, List.length_nil] at m1
  obtain ⟨F2, hF2, m2, j2⟩ := catE F1 [32] (by simp; omega)
  simp only [List.length_cons, List.length_nil] at m2
  obtain ⟨F3, hF3, m3, j3⟩ := catE F2 A (by omega)
  obtain ⟨F4, hF4, m4, j4⟩ := catE F3 [13] (by simp; omega)
  rw [hE1, hE2, hE3, hE4, hE5, hE6] at xL
  rw [hE1, hE2, hE3, hE7] at xA
  rw [hF1, hF2, hF3, hF4] at xD
  have k1 : dBin .add (.string ⟨#[115, 117, 109, 32]⟩) (.string ⟨⟨A⟩⟩) = some (.string ⟨⟨E1⟩⟩) := k1
  have k2 : dBin .add (.string ⟨⟨E1⟩⟩) (.string ⟨#[32]⟩) = some (.string ⟨⟨E2⟩⟩) := k2
  have k4 : dBin .add (.string ⟨⟨E3⟩⟩) (.string ⟨#[32]⟩) = some (.string ⟨⟨E4⟩⟩) := k4
  have k6 : dBin .add (.string ⟨⟨E5⟩⟩) (.string ⟨#[13, 10]⟩) = some (.string ⟨⟨E6⟩⟩) := k6
  have k7 : dBin .add (.string ⟨⟨E3⟩⟩) (.string ⟨#[13]⟩) = some (.string ⟨⟨E7⟩⟩) := k7
  have j1 : dBin .add (.string ⟨#[108, 111, 97, 100, 32]⟩) (.string ⟨⟨W⟩⟩) = some (.string ⟨⟨F1⟩⟩) := j1
  have j2 : dBin .add (.string ⟨⟨F1⟩⟩) (.string ⟨#[32]⟩) = some (.string ⟨⟨F2⟩⟩) := j2
  have j4 : dBin .add (.string ⟨⟨F3⟩⟩) (.string ⟨#[13]⟩) = some (.string ⟨⟨F4⟩⟩) := j4
  simp -implicitDefEqProofs (disch := first | assumption | (simp only [wnA]; done) | (simp only [wnA]; omega) | omega | fail) [wkA, retV, stabOk, dC, ev, fillD, pickCells, putAt, bnd, slD, List.getElem?_cons_zero, List.getElem?_cons_succ, dR.eq_20, Mem.cell, Mem.row, wmA, hk2, hidx, hg, hat, hat', hlt, wa, wn]
  refine c_Line hp1 ht (by omega) (by omega) hpp fun m1 o1 => ?_
  rw [xL]
  simp -implicitDefEqProofs (disch := first | assumption | (simp only [wnA]; done) | (simp only [wnA]; omega) | omega | fail) [wkA, retV, stabOk, dC, ev, fillD, pickCells, putAt, bnd, slD, List.getElem?_cons_zero, List.getElem?_cons_succ, dR.eq_20, Mem.cell, Mem.row, wmA, k1, k2, k3, k4, k5, k6, wa, wn]
  refine c_Load (Old.part hp1 o1) ht (by omega) fun m2 o2 => ?_
  rw [xD]
  simp -implicitDefEqProofs (disch := first | assumption | (simp only [wnA]; done) | (simp only [wnA]; omega) | omega | fail) [wkA, retV, stabOk, dC, ev, fillD, pickCells, putAt, bnd, slD, List.getElem?_cons_zero, List.getElem?_cons_succ, dR.eq_20, Mem.cell, Mem.row, wmA, j1, j2, j3, j4, wa, wn]
  refine c_Ask (Old.part (Old.part hp1 o1) o2) ht (by omega) (by omega) fun m3 o3 => ?_
  rw [xA]
  simp -implicitDefEqProofs (disch := first | assumption | (simp only [wnA]; done) | (simp only [wnA]; omega) | omega | fail) [wkA, retV, stabOk, dC, ev, fillD, pickCells, putAt, bnd, slD, List.getElem?_cons_zero, List.getElem?_cons_succ, dR.eq_20, Mem.cell, Mem.row, wmA, k1, k2, k3, k7]
theorem l_LinesI {w0 : World} {m : Mem} {a n p w : Int} (h1 : (Lit.int .u32 a).wf = true) (h2 : (Lit.int .u32 n).wf = true) (h3 : (Lit.int .u32 p).wf = true) (hp : Part L0 m) (ht : Ten w0) :
    AbC Tryz.prog w0 5 [.int .u32 a, .int .u32 n, .int .u32 p, .int .i64 w] m fun v _ => v = .bool true := by
  have a1 := wf_u32 h1
  have a2 := wf_u32 h2
  have a3 := wf_u32 h3
  obtain ⟨a, rfl⟩ : ∃ k : Nat, a = (k : Int) := ⟨a.toNat, by omega⟩
  obtain ⟨n, rfl⟩ : ∃ k : Nat, n = (k : Int) := ⟨n.toNat, by omega⟩
  obtain ⟨p, rfl⟩ : ∃ k : Nat, p = (k : Int) := ⟨p.toNat, by omega⟩
  exact l_Lines (by omega) (by omega) (by omega) hp ht
end Go.Proofs.YtiapjjgmmiifmaaGreatDoor.Ab

namespace Go.Proofs.YtiapjjgmmiifmaaGreatDoor.targetLines
open Go Go.ChangeShapes Go.WideShapes Go.ChangeAt Go.RowKit Go.Proofs.YtiapjjgmmiifmaaGreatDoor.Ab
set_option linter.unusedVariables false
theorem own : ownKnob Tryz.prog.godebug = none := by kernel_rfl
theorem laidOut : laidOutB Tryz.prog = true := by kernel_rfl
set_option maxRecDepth 100000 in
theorem contract (H : Type) (enc : TypeId × Value → H) (W : World) (base : Nat) (args : Array Value) (ds gs : List (DataW H)) (before : List MemPlace)
    (hval : ∀ (j : Nat) t v, Tryz.f5.params[j]? = some t → args[j]? = some v → Value.okWide Tryz.prog W .any base t v)
    (hW : DataW.Whole enc Tryz.prog Tryz.f5.params.toList Rows.targetLinesSpec.vars false W args.toList ds gs before) (hL : laidMetH Tryz.prog Rows.targetLinesRow.laid W) :
    Calls Tryz.prog 5 args W fun e W' => ∃ v, e = .returned v ∧ Rows.targetLinesSpec.post enc Tryz.prog Tryz.f5 false true false false W args v W' := by
  have hW' := hW
  have hL' : laidMet Tryz.prog Rows.targetLinesRow.laid W := hL
  obtain ⟨p, q, hA0, hV, rfl, hfz, hnd⟩ := hW
  have hA : DataW.TrodAll enc Tryz.prog W 0 (fun _ => true) true Tryz.f5.params.toList args.toList ds p := hA0
  rw [Tryz.params5] at hA hval
  obtain ⟨v0, vs0, d0, ds0, p0, q0, hargs, rfl, rfl, h0, r0⟩ := trodAll_cons hA
  obtain ⟨v1, vs1, d1, ds1, p1, q1, rfl, rfl, rfl, h1, r1⟩ := trodAll_cons r0
  obtain ⟨v2, vs2, d2, ds2, p2, q2, rfl, rfl, rfl, h2, r2⟩ := trodAll_cons r1
  obtain ⟨v3, vs3, d3, ds3, p3, q3, rfl, rfl, rfl, h3, r3⟩ := trodAll_cons r2
  obtain ⟨rfl, rfl, rfl⟩ := trodAll_nil r3
  obtain rfl : args = #[v0, v1, v2, v3] := by cases args; simp_all
  obtain ⟨rfl, rfl⟩ := trodVars_none hV
  obtain ⟨a0, rfl⟩ := okWide_int Tryz.underlying41 (hval 0 41 v0 rfl rfl)
  have lt0 : ∀ x ∈ p0, x.block < W.heap.size := by obtain ⟨m, hm⟩ := h0; exact DataW.trod_lt m _ _ _ hm
  obtain ⟨a1, rfl⟩ := okWide_int Tryz.underlying41 (hval 1 41 v1 rfl rfl)
  have lt1 : ∀ x ∈ p1, x.block < W.heap.size := by obtain ⟨m, hm⟩ := h1; exact DataW.trod_lt m _ _ _ hm
  obtain ⟨a2, rfl⟩ := okWide_int Tryz.underlying41 (hval 2 41 v2 rfl rfl)
  have lt2 : ∀ x ∈ p2, x.block < W.heap.size := by obtain ⟨m, hm⟩ := h2; exact DataW.trod_lt m _ _ _ hm
  obtain ⟨a3, rfl⟩ := okWide_int Tryz.underlying3 (hval 3 3 v3 rfl rfl)
  have lt3 : ∀ x ∈ p3, x.block < W.heap.size := by obtain ⟨m, hm⟩ := h3; exact DataW.trod_lt m _ _ _ hm
  have s : St Tryz.prog W (G0 Tryz.prog) (toMem L0) W := St.laid globals_size L0_get laid_ok (laidIn hL' (List.mem_of_getElem? (i := 0) rfl) (List.mem_of_getElem? (i := 1) rfl) (List.mem_of_getElem? (i := 2) rfl))
  have hp : Part L0 (toMem L0) := Part.of L0_part (Nat.le_refl _) fun _ _ => rfl
  obtain ⟨G0, m0, x0, t0, g0, s0, u0, b0, f0, k0⟩ := arg_one (k := 5) (s := .int .u32) (by kernel_rfl) h0 rfl s
  have hp := g0.part hp
  obtain ⟨G1, m1, x1, t1, g1, s1, u1, b1, f1, k1⟩ := arg_one (k := 5) (s := .int .u32) (by kernel_rfl) h1 rfl s0
  have hp := g1.part hp
  have b0 := b0.mono g1.2.1 g1.2.2
  have u0 := u0.mono g1.1
  obtain ⟨G2, m2, x2, t2, g2, s2, u2, b2, f2, k2⟩ := arg_one (k := 5) (s := .int .u32) (by kernel_rfl) h2 rfl s1
  have hp := g2.part hp
  have b0 := b0.mono g2.2.1 g2.2.2
  have u0 := u0.mono g2.1
  have b1 := b1.mono g2.2.1 g2.2.2
  have u1 := u1.mono g2.1
  obtain ⟨G3, m3, x3, t3, g3, s3, u3, b3, f3, k3⟩ := arg_one (k := 5) (s := .int .i64) (by kernel_rfl) h3 rfl s2
  have hp := g3.part hp
  have b0 := b0.mono g3.2.1 g3.2.2
  have u0 := u0.mono g3.1
  have b1 := b1.mono g3.2.1 g3.2.2
  have u1 := u1.mono g3.1
  have b2 := b2.mono g3.2.1 g3.2.2
  have u2 := u2.mono g3.1
  refine (AbC_true s3 (.cons _ _ _ _ u0 (.cons _ _ _ _ u1 (.cons _ _ _ _ u2 (.cons _ _ _ _ u3 .nil)))) ((by obtain ⟨n1, hx1, -, w1⟩ := absT_int b0 f0; cases hx1; obtain ⟨n2, hx2, -, w2⟩ := absT_int b1 f1; cases hx2; obtain ⟨n3, hx3, -, w3⟩ := absT_int b2 f2; cases hx3; obtain ⟨n4, hx4, -, w4⟩ := absT_int b3 f3; cases hx4; exact l_LinesI w1 w2 w3 hp (ten_of hL' (List.mem_of_getElem? (i := 2) rfl)))) (by kernel_rfl)).mono fun e W' ⟨he, bel⟩ => ?_
  subst he
  exact ⟨_, rfl, _, _, _, [], _, [], hW', trodAll_mk1 (shut_bool Tryz.underlying4 _), (trodAll_cons_mk (Below.trod laidOut (by kernel_rfl) (of_decide_eq_true (by kernel_rfl)) h0 bel lt0) (trodAll_cons_mk (Below.trod laidOut (by kernel_rfl) (of_decide_eq_true (by kernel_rfl)) h1 bel lt1) (trodAll_cons_mk (Below.trod laidOut (by kernel_rfl) (of_decide_eq_true (by kernel_rfl)) h2 bel lt2) (trodAll_cons_mk (Below.trod laidOut (by kernel_rfl) (of_decide_eq_true (by kernel_rfl)) h3 bel lt3) trodAll_mk0)))), rfl, bel.frame _, fun h => by cases h⟩
noncomputable def laidWorld (os : Os) : World :=
  let N := (World.settled Tryz.prog os).heap.size
  { World.holding Tryz.prog os ⟨#[.cells #[.string ⟨#[118, 97, 108, 117, 101, 32, 111, 117, 116, 32, 111, 102, 32, 114, 97, 110, 103, 101]⟩] 190, .cells #[.string ⟨#[105, 110, 118, 97, 108, 105, 100, 32, 115, 121, 110, 116, 97, 120]⟩] 190], #[], []⟩ with heap := ((((((((World.holding Tryz.prog os ⟨#[.cells #[.string ⟨#[118, 97, 108, 117, 101, 32, 111, 117, 116, 32, 111, 102, 32, 114, 97, 110, 103, 101]⟩] 190, .cells #[.string ⟨#[105, 110, 118, 97, 108, 105, 100, 32, 115, 121, 110, 116, 97, 120]⟩] 190], #[], []⟩).heap.modify 1 fun | .cells _ t frozen => .cells ⟨e32⟩ t frozen | o => o).modify 2 fun | .cells _ t frozen => .cells ⟨e64⟩ t frozen | o => o).modify 0 fun | .cells _ t frozen => .cells ⟨e10⟩ t frozen | o => o).modify 5 fun | .cells _ t frozen => .cells #[.iface 188 (.pointer (some ⟨N, 0, none⟩))] t frozen | o => o).modify 4 fun | .cells _ t frozen => .cells #[.iface 188 (.pointer (some ⟨N + 1, 0, none⟩))] t frozen | o => o).modify 6 fun | .cells _ t frozen => .cells ⟨Go.Pinned.utf8FirstZ.map fun (n : Nat) => Value.int .u8 (n : Int)⟩ t frozen | o => o).modify 7 fun | .cells _ t frozen => .cells ⟨([128, 191, 160, 191, 128, 159, 144, 191, 128, 143] ++ List.replicate 22 0 : List Int).map fun (n : Int) => Value.int .u8 n⟩ t frozen | o => o) }
theorem laid_met (os : Os) : laidMet Tryz.prog Rows.targetLinesRow.laid ((laidWorld os).forCall (fun _ _ => 0) ⟨#[], #[(.int .u32 0 : Value), (.int .u32 0 : Value), (.int .u32 0 : Value), (.int .i64 0 : Value)], []⟩).memory :=
  laidMet_of_run' 8 (by kernel_rfl) (by kernel_rfl)
theorem reads (os : Os) {H : Type} (enc : TypeId × Value → H) : ∃ places, DataW.whole enc Tryz.prog ((laidWorld os).forCall (fun _ _ => 0) ⟨#[], #[(.int .u32 0 : Value), (.int .u32 0 : Value), (.int .u32 0 : Value), (.int .i64 0 : Value)], []⟩).memory Tryz.f5.params.toList Rows.targetLinesSpec.vars false [(.int .u32 0 : Value), (.int .u32 0 : Value), (.int .u32 0 : Value), (.int .i64 0 : Value)] 8 = some ([.lit (.int .u32 0), .lit (.int .u32 0), .lit (.int .u32 0), .lit (.int .i64 0)], [], places) :=
  ⟨[], by kernel_rfl⟩
set_option maxRecDepth 100000 in
theorem lifted (os : Os) (started : os.Started) (H : Type) (enc : TypeId × Value → H) (F : Stop.Interp) :
    ReturnsInHanded {} Tryz.checked os 5 .any ((OpenSpec.ofChange Rows.targetLinesSpec).preRow enc Tryz.prog Tryz.f5 Rows.targetLinesRow.domain false Rows.targetLinesRow.laid) (((OpenSpec.ofChange Rows.targetLinesSpec).at F).post enc Tryz.prog Tryz.f5 false true false false) := by
  obtain ⟨places, hx⟩ := reads os enc
  refine returnsInHanded_of_row (C := Tryz.checked) (s := (OpenSpec.ofChange Rows.targetLinesSpec)) own started (by kernel_rfl) Tryz.func5
    (witness_row_atRef (enc := enc) (C := Tryz.checked) false (laidWorld os) #[(.int .u32 0 : Value), (.int .u32 0 : Value), (.int .u32 0 : Value), (.int .i64 0 : Value)] rfl (by kernel_rfl) (by kernel_rfl) (by kernel_rfl)
      (OpenSpec.preRow_of_cond 8 hx (by kernel_rfl) (fun k hk => by cases hk) (by kernel_rfl) (laid_met os))) ?_
  intro W base args ds gs before hval hW _ _ _ hL _ _
  exact contract H enc W base args ds gs before hval hW hL
theorem over : Rows.TargetLinesSaid :=
  OpenClaim.holds_of_cond 5 Tryz.f5 rfl rfl rfl rfl rfl rfl rfl ⟨rfl, rfl, rfl, rfl, rfl⟩ rfl rfl rfl rfl rfl (by kernel_rfl) Tryz.func5 (by kernel_rfl)
    (of_decide_eq_true (by kernel_rfl)) (by unfold Func.isWrapper; first | (rw [if_pos (by decide +kernel)]; kernel_rfl) | (rw [if_neg (by decide +kernel)]; exact ⟨rfl, rfl⟩))
    (fun os started H enc _ F => by rw [OpenClaim.pre_eq_preRow]; exact lifted os started H enc F)
theorem plain (f : FuncId) (fn : Func) (hf : Tryz.pinned.checked.prog.funcNamed "lifeline/lifelinelaw20.TargetLines" = some f) (hfn : Tryz.pinned.checked.prog.funcs[f]? = some fn) :
    true = Tryz.pinned.checked.prog.looks [] ∧ ∀ (j : Nat) t, fn.params[j]? = some t → Tryz.pinned.checked.prog.wantsStandIn t = false := by
  obtain rfl : f = 5 := Option.some.inj ((show Tryz.prog.funcNamed "lifeline/lifelinelaw20.TargetLines" = some 5 by kernel_rfl).symm.trans hf) |>.symm
  obtain rfl : fn = Tryz.f5 := (Option.some.inj (Tryz.func5.symm.trans hfn)).symm
  refine ⟨by kernel_rfl, fun j t ht => ?_⟩
  rw [Tryz.params5] at ht
  have hall : ∀ t ∈ [41, 41, 41, 3], Tryz.prog.wantsStandIn t = false := by
    intro t ht
    simp only [List.mem_cons, List.mem_nil_iff, or_false] at ht
    rcases ht with rfl | rfl | rfl | rfl <;> kernel_rfl
  exact hall t (by simpa using Array.mem_of_getElem? ht)
theorem proved : Rows.TargetLinesCardSaid :=
  Claim7.holds_tied_plain_at .later [] _ _ _ _ over (fun _ h => by cases h) (by kernel_rfl) (fun _ h => by cases h) targetLines_row_tie rfl ⟨rfl, rfl⟩ (by kernel_rfl) rfl plain (by kernel_rfl)
#print axioms proved
end Go.Proofs.YtiapjjgmmiifmaaGreatDoor.targetLines
