/- Parts of a proof, put together: The resolved codes of the functions that are walked, and that the program has them. -/
import Derived.Test.YtjlicambfepfiaaGreatDoorKPt2
import Derived.Test.YtjlicambfepfiaaGreatDoorProg
import Derived.KernelRfl
import Derived.Shelf.Strconv.Itoa1
import Derived.Shelf.LaysM
import Derived.Shelf.Strconv.Itoa2
import Derived.Shelf.Strconv.Itoa3
import Derived.Shelf.LaysC
import Derived.Shelf.Strconv.ToError
import Derived.Shelf.Strconv.ToErrorRange
import Derived.Lib.AppendIntMem
import Derived.Lib.SplitLaws
import Derived.Lib.TrimByte
import Derived.Lib.IndexBytes
import Derived.Lib.ItoaMem
set_option maxHeartbeats 4000000
namespace Go.Proofs.YtjlicambfepfiaaGreatDoor.Ab
open Go Go.RowKit
abbrev zt (n : Nat) : Operand := .tmp n
abbrev zi (n : Int) : Operand := .const (.int .i64 n)
abbrev zr (n : Nat) (x : RO) : Sp := ⟨some n, none, .r x, []⟩
abbrev za (n : Nat) (x : Operand) : Sp := ⟨some n, none, .a x, []⟩
abbrev zf (n : Nat) (x : EO) : Sp := ⟨some n, none, .e x, []⟩
abbrev ze (x : EO) : Sp := ⟨none, none, .e x, []⟩
abbrev zg (n c : Nat) (b : Bool) (x : RO) : Sp := ⟨some n, some (c, b), .r x, []⟩
abbrev zc (n f : Nat) (l : List Operand) : Sp := ⟨some n, none, .c (.fn f l), []⟩
def rc9_0 : RC := (.seq (.block 1 (.seq (.run [zr 45 (.mv (zt 8)), zr 46 (.mv (zt 6)), zr 47 (.mv (zt 11)), zr 48 (.ixs (zt 46) (zt 47)), zc 49 30 [(zt 45), (zt 48)]])
  (.seq (.run [zr 50 (.mv (zt 8)), zc 51 28 [(zt 50)], zr 52 (.bin .eql (zt 51) (zi 1)), zr 53 (.mv (zt 52)), zg 54 53 true (.mv (zt 10)), zg 55 53 true (.bin .lss (zt 54) (zi 0)), zr 56 (.pick (zt 53) (zt 55) (.const (.bool false)))])
  (.cond (zt 56)
  (.run [zr 57 (.mv (zt 11)), zr 58 (.bin .add (zt 57) (zi 1)), za 10 (zt 58)])
  .skip))))
  (.run [zr 43 (.mv (zt 11)), zr 44 (.bin .add (zt 43) (zi 1)), za 11 (zt 44)]))
def rc9_1 : RC := (.seq (.seq (.run [zr 39 (.mv (zt 11)), zr 40 (.mv (zt 6)), zr 41 (.lens (zt 40)), zr 42 (.bin .lss (zt 39) (zt 41))])
  (.cond (zt 42)
  .skip
  (.exit 0)))
  rc9_0)
def rc9_2 : RC := (.seq (.block 3 (.run [zr 91 (.mv (zt 15)), zr 92 (.mv (zt 6)), zr 93 (.mv (zt 17)), zr 94 (.ixs (zt 92) (zt 93)), zc 95 30 [(zt 91), (zt 94)]]))
  (.run [zr 89 (.mv (zt 17)), zr 90 (.bin .add (zt 89) (zi 1)), za 17 (zt 90)]))
def rc9_3 : RC := (.seq (.seq (.run [zr 86 (.mv (zt 17)), zr 87 (.mv (zt 10)), zr 88 (.bin .lss (zt 86) (zt 87))])
  (.cond (zt 88)
  .skip
  (.exit 2)))
  rc9_2)
def rc9_4 : RC := (.seq (.block 5 (.seq (.run [zr 102 (.mv (zt 12)), zr 103 (.mv (zt 14)), zr 104 (.mv (zt 18)), zr 105 (.ixs (zt 103) (zt 104)), zc 106 30 [(zt 102), (zt 105)]])
  (.run [zr 107 (.mv (zt 15)), zr 108 (.mv (zt 14)), zr 109 (.mv (zt 18)), zr 110 (.ixs (zt 108) (zt 109)), zc 111 30 [(zt 107), (zt 110)]])))
  (.run [zr 100 (.mv (zt 18)), zr 101 (.bin .add (zt 100) (zi 1)), za 18 (zt 101)]))
def rc9_5 : RC := (.seq (.seq (.run [zr 96 (.mv (zt 18)), zr 97 (.mv (zt 14)), zr 98 (.lens (zt 97)), zr 99 (.bin .lss (zt 96) (zt 98))])
  (.cond (zt 99)
  .skip
  (.exit 4)))
  rc9_4)
def rc9_6 : RC := (.seq (.run [zr 112 (.mv (zt 12)), zc 113 26 [(zt 112)], zr 114 (.mv (zt 15)), zc 115 26 [(zt 114)], zr 116 (.bin .eql (zt 113) (zt 115)), za 4 (zt 116)])
  .ret)
def rc9_7 : RC := (.seq (.seq (.run [za 18 (zi 0)])
  (.block 4 (.loop rc9_5)))
  rc9_6)
def rc9_8 : RC := (.seq (.run [zr 62 (.mv (zt 5)), zr 63 (.sl 7 (zt 62) (some (zi 1)) none), zc 64 25 [(zt 63)], zr 61 (.mv (zt 64)), zr 65 (.ext 0 (zt 61)), zr 66 (.ext 1 (zt 61)), za 12 (zt 65), za 13 (zt 66)])
  (.seq (.run [zr 67 (.mv (zt 6)), zr 68 (.mv (zt 10)), zr 69 (.sls (zt 67) (some (zt 68)) none), zr 70 (.mv (zt 7)), zr 71 (.bin .add (zt 69) (zt 70)), za 14 (zt 71)])
  (.seq (.run [zr 73 (.bld [(.string ⟨#[]⟩), (.string ⟨#[]⟩)] [(0, 1, (.const (.string ⟨#[97, 98]⟩))), (1, 1, (.const (.string ⟨#[98]⟩)))]), zr 76 (.mv (zt 5)), zr 77 (.ia 7 (zt 76) (zi 1)), zr 78 (.ldn 7 (zt 77)), zr 79 (.mv (zt 5)), zr 80 (.ia 7 (zt 79) (zi 2)), zr 81 (.ldn 7 (zt 80)), ⟨(some 74), none, (.e (.bsl 49 2 1 [(.string ⟨#[]⟩), (.string ⟨#[]⟩)] [(0, 2, (zt 73))])), [(78, none, .ldn 7 (zt 77)), (81, none, .ldn 7 (zt 80))]⟩, zr 75 (.bld [(.string ⟨#[]⟩), (.int .i64 0), (.string ⟨#[]⟩), (.slice none 0 0), (.int .i64 0), (.string ⟨#[]⟩), (.int .i64 0)] [(0, 1, (.const (.string ⟨#[97]⟩))), (1, 1, (zi 1)), (3, 1, (zt 74)), (4, 1, (zi 9)), (5, 1, (.const (.string ⟨#[97]⟩)))]), zf 82 (.bsl 29 7 3 [(.string ⟨#[]⟩), (.int .i64 0), (.string ⟨#[]⟩), (.slice none 0 0), (.int .i64 0), (.string ⟨#[]⟩), (.int .i64 0), (.string ⟨#[]⟩), (.int .i64 0), (.string ⟨#[]⟩), (.slice none 0 0), (.int .i64 0), (.string ⟨#[]⟩), (.int .i64 0), (.string ⟨#[]⟩), (.int .i64 0), (.string ⟨#[]⟩), (.slice none 0 0), (.int .i64 0), (.string ⟨#[]⟩), (.int .i64 0)] [(0, 7, (zt 75)), (7, 7, (zt 78)), (14, 7, (zt 81))]), zc 83 25 [(zt 82)], zr 72 (.mv (zt 83)), zr 84 (.ext 0 (zt 72)), zr 85 (.ext 1 (zt 72)), za 15 (zt 84), za 16 (zt 85)])
  (.seq (.seq (.run [za 17 (zi 0)])
  (.block 2 (.loop rc9_3)))
  rc9_7))))
def rc9_9 : RC := (.seq (.seq (.run [zr 59 (.mv (zt 10)), zr 60 (.bin .lss (zt 59) (zi 0))])
  (.cond (zt 60)
  (.seq (.run [za 4 (.const (.bool false))])
  .ret)
  .skip))
  rc9_8)
def rc9_10 : RC := (.seq (.run [zr 21 (.bld [(.string ⟨#[]⟩), (.string ⟨#[]⟩)] [(0, 1, (.const (.string ⟨#[97, 98]⟩))), (1, 1, (.const (.string ⟨#[98]⟩)))]), zf 22 (.bsl 49 2 1 [(.string ⟨#[]⟩), (.string ⟨#[]⟩)] [(0, 2, (zt 21))]), zr 23 (.bld [(.string ⟨#[]⟩), (.int .i64 0), (.string ⟨#[]⟩), (.slice none 0 0), (.int .i64 0), (.string ⟨#[]⟩), (.int .i64 0)] [(0, 1, (.const (.string ⟨#[97]⟩))), (1, 1, (zi 1)), (3, 1, (zt 22)), (4, 1, (zi 9)), (5, 1, (.const (.string ⟨#[97]⟩)))]), zr 24 (.bld [(.string ⟨#[]⟩), (.string ⟨#[]⟩)] [(0, 1, (.const (.string ⟨#[98, 99]⟩))), (1, 1, (.const (.string ⟨#[99]⟩)))]), zf 25 (.bsl 49 2 1 [(.string ⟨#[]⟩), (.string ⟨#[]⟩)] [(0, 2, (zt 24))]), zr 26 (.bld [(.string ⟨#[]⟩), (.int .i64 0), (.string ⟨#[]⟩), (.slice none 0 0), (.int .i64 0), (.string ⟨#[]⟩), (.int .i64 0)] [(0, 1, (.const (.string ⟨#[98]⟩))), (1, 1, (zi 1)), (3, 1, (zt 25)), (4, 1, (zi 9)), (5, 1, (.const (.string ⟨#[98]⟩)))]), zr 27 (.bld [(.string ⟨#[]⟩), (.int .i64 0), (.string ⟨#[]⟩), (.slice none 0 0), (.int .i64 0), (.string ⟨#[]⟩), (.int .i64 0)] [(0, 1, (.const (.string ⟨#[99]⟩))), (1, 1, (zi 4))]), zf 28 (.bsl 29 7 3 [(.string ⟨#[]⟩), (.int .i64 0), (.string ⟨#[]⟩), (.slice none 0 0), (.int .i64 0), (.string ⟨#[]⟩), (.int .i64 0), (.string ⟨#[]⟩), (.int .i64 0), (.string ⟨#[]⟩), (.slice none 0 0), (.int .i64 0), (.string ⟨#[]⟩), (.int .i64 0), (.string ⟨#[]⟩), (.int .i64 0), (.string ⟨#[]⟩), (.slice none 0 0), (.int .i64 0), (.string ⟨#[]⟩), (.int .i64 0)] [(0, 7, (zt 23)), (7, 7, (zt 26)), (14, 7, (zt 27))]), za 5 (zt 28)])
  (.seq (.run [zr 29 (.mv (zt 0)), zc 30 29 [(zt 29)], zr 31 (.bin .add (zt 30) (.const (.string ⟨#[97, 98]⟩))), za 6 (zt 31)])
  (.seq (.run [zr 32 (.mv (zt 1)), zc 33 29 [(zt 32)], za 7 (zt 33)])
  (.seq (.run [zr 35 (.mv (zt 5)), zc 36 25 [(zt 35)], zr 34 (.mv (zt 36)), zr 37 (.ext 0 (zt 34)), zr 38 (.ext 1 (zt 34)), za 8 (zt 37), za 9 (zt 38)])
  (.seq (.run [za 10 (zi (-1))])
  (.seq (.seq (.run [za 11 (zi 0)])
  (.block 0 (.loop rc9_1)))
  rc9_9))))))
def rc9 : RC := (.seq (.run [za 4 (.const (.bool false))])
  (.seq (.seq (.run [zc 19 24 [], zr 20 (.not (zt 19))])
  (.cond (zt 20)
  (.seq (.run [za 4 (.const (.bool false))])
  .ret)
  .skip))
  rc9_10))
def ce9 : List (Nat × List Nat × List Nat) := [(18, [0, 3, 4, 5, 6, 7, 8, 1, 2, 9, 10, 11, 12, 13, 14, 15], [0, 1, 3, 0, 8, 24, 0, 64, 192, 511, 1023, 2047, 4095, 4095, 8191, 32767])]
def ro9 : List RO := [(.mv (zt 4))]
theorem ok9 : okFn Tryz.prog 9 117 ce9 = some (rc9, ro9) := by kernel_rfl
def rc14_0 : RC := (.seq (.block 1 (.seq (.run [zr 11 (.mv (zt 9)), zr 12 (.ia 7 (zt 7) (zt 9)), zr 13 (.ldn 7 (zt 12)), zf 6 (.al [(.string ⟨#[]⟩), (.int .i64 0), (.string ⟨#[]⟩), (.slice none 0 0), (.int .i64 0), (.string ⟨#[]⟩), (.int .i64 0)] 29), za 5 (zt 11), ze (.st 7 (zt 6) (zt 13))])
  (.seq (.run [zr 14 (.fa 0 (zt 6)), zr 15 (.ld (zt 14)), zr 16 (.mv (zt 1)), zr 17 (.bin .eql (zt 15) (zt 16)), zr 18 (.mv (zt 17)), zg 19 18 true (.mv (zt 1)), zg 20 18 true (.bin .neq (zt 19) (.const (.string ⟨#[]⟩))), zr 21 (.pick (zt 18) (zt 20) (.const (.bool false)))])
  (.cond (zt 21)
  (.seq (.run [zr 22 (.mv (zt 5)), za 4 (zt 22)])
  .ret)
  .skip))))
  (.run [zr 23 (.bin .add (zt 9) (zi 1)), zr 9 (.mv (zt 23))]))
def rc14_1 : RC := (.seq (.run [zr 10 (.bin .lss (zt 9) (zt 8))])
  (.seq (.cond (zt 10)
  .skip
  (.exit 0))
  rc14_0))
def rc14_2 : RC := (.seq (.run [za 4 (zi (-1))])
  .ret)
def rc14 : RC := (.seq (.run [za 4 (zi 0)])
  (.seq (.seq (.run [zr 7 (.mv (zt 0)), zr 8 (.lenl (zt 7)), zr 9 (.mv (zi 0))])
  (.block 0 (.loop rc14_1)))
  rc14_2))
def ce14 : List (Nat × List Nat × List Nat) := []
def ro14 : List RO := [(.mv (zt 4))]
theorem ok14 : okFn Tryz.prog 14 24 ce14 = some (rc14, ro14) := by kernel_rfl
def rc18_0 : RC := (.block 1 (.run [zr 38 (.mv (zt 7)), zr 39 (.mv (zt 6)), zc 40 36 [(zt 39)], zf 41 (.bsl 29 7 1 [(.string ⟨#[]⟩), (.int .i64 0), (.string ⟨#[]⟩), (.slice none 0 0), (.int .i64 0), (.string ⟨#[]⟩), (.int .i64 0)] [(0, 7, (zt 40))]), zf 42 (.app 29 7 96 (zt 38) (zt 41)), za 7 (zt 42)]))
def rc18_1 : RC := (.seq (.seq (.run [zr 19 (.mv (zt 6)), zr 20 (.nck (zt 19)), zr 21 (.fa 2 (zt 20)), zr 22 (.ld (zt 21)), zr 23 (.eq false (.iface []) (zt 22) (.const .nilIface)), zr 24 (.mv (zt 23)), zg 25 24 true (.mv (zt 6)), zg 26 24 true (.nck (zt 25)), zg 27 24 true (.fa 0 (zt 26)), zg 28 24 true (.ld (zt 27)), zg 29 24 true (.mv (zt 6)), zg 30 24 true (.nck (zt 29)), zg 31 24 true (.fa 1 (zt 30)), zg 32 24 true (.ld (zt 31)), zg 33 24 true (.ia 4 (zt 28) (zt 32)), zg 34 24 true (.fa 0 (zt 33)), zg 35 24 true (.ld (zt 34)), zg 36 24 true (.bin .neq (zt 35) (zi 0)), zr 37 (.pick (zt 24) (zt 36) (.const (.bool false)))])
  (.cond (zt 37)
  .skip
  (.exit 0)))
  rc18_0)
def rc18_2 : RC := (.seq (.run [zr 52 (.mv (zt 7)), za 2 (zt 52), za 3 (.const .nilIface)])
  .ret)
def rc18_3 : RC := (.seq (.seq (.run [zr 43 (.mv (zt 6)), zr 44 (.nck (zt 43)), zr 45 (.fa 2 (zt 44)), zr 46 (.ld (zt 45)), zr 47 (.eq true (.iface []) (zt 46) (.const .nilIface))])
  (.cond (zt 47)
  (.seq (.run [zr 48 (.mv (zt 6)), zr 49 (.nck (zt 48)), zr 50 (.fa 2 (zt 49)), zr 51 (.ld (zt 50)), ⟨(some 2), none, (.a (.const (.slice none 0 0))), [(51, none, .ld (zt 50))]⟩, za 3 (zt 51)])
  .ret)
  .skip))
  rc18_2)
def rc18_4 : RC := (.seq (.run [zr 16 (.mv (zt 4)), zr 17 (.bld [(.slice none 0 0), (.int .i64 0), .nilIface] [(0, 1, (zt 16))]), zf 18 (.bx 84 (zt 17)), za 6 (zt 18)])
  (.seq (.run [za 7 (.const (.slice none 0 0))])
  (.seq (.block 0 (.loop rc18_1))
  rc18_3)))
def rc18 : RC := (.seq (.run [za 2 (.const (.slice none 0 0)), za 3 (.const .nilIface)])
  (.seq (.run [zr 9 (.mv (zt 0)), zc 10 35 [(zt 9)], zr 8 (.mv (zt 10)), zr 11 (.ext 0 (zt 8)), zr 12 (.ext 1 (zt 8)), za 4 (zt 11), za 5 (zt 12)])
  (.seq (.seq (.run [zr 13 (.mv (zt 5)), zr 14 (.eq true (.iface []) (zt 13) (.const .nilIface))])
  (.cond (zt 14)
  (.seq (.run [zr 15 (.mv (zt 5)), za 2 (.const (.slice none 0 0)), za 3 (zt 15)])
  .ret)
  .skip))
  rc18_4)))
def ce18 : List (Nat × List Nat × List Nat) := [(6, [0, 1, 2, 3, 4, 5, 6, 7, 8, 9, 10, 11, 12, 13, 14, 15, 16, 17, 18], [0, 1, 3, 7, 15, 31, 63, 127, 255, 511, 63, 1087, 3135, 7231, 16383, 32767, 65535, 131071, 262143]), (9, [0, 1, 2, 3, 4, 5], [0, 1, 3, 7, 0, 31])]
def ro18 : List RO := [(.mv (zt 2)), (.mv (zt 3))]
theorem ok18 : okFn Tryz.prog 18 53 ce18 = some (rc18, ro18) := by kernel_rfl
def rc19_0 : RC := (.seq (.run [za 2 (zi 0)])
  .ret)
def rc19 : RC := (.seq (.run [za 2 (zi 0)])
  (.seq (.run [zf 3 (.al [(.int .i64 0)] 39)])
  (.seq (.seq (.run [zr 4 (.mv (zt 0)), zr 5 (.mki 90 (zt 3)), zc 6 37 [(zt 4), (zt 5)]])
  (.cond (zt 6)
  (.seq (.run [zr 7 (.ld (zt 3)), za 2 (zt 7)])
  .ret)
  .skip))
  rc19_0)))
def ce19 : List (Nat × List Nat × List Nat) := []
def ro19 : List RO := [(.mv (zt 2))]
theorem ok19 : okFn Tryz.prog 19 8 ce19 = some (rc19, ro19) := by kernel_rfl
def rc24_0 : RC := (.seq (.run [zr 18 (.mv (zt 3)), zc 19 27 [(zt 18)], zr 20 (.mv (zt 3)), zc 21 27 [(zt 20)], za 5 (zt 19), za 6 (zt 21)])
  (.seq (.run [zr 22 (.mv (zt 3)), zc 23 30 [(zt 22), (.const (.int .u8 121))]])
  (.seq (.run [zr 24 (.mv (zt 4)), zr 25 (.b2s (zt 24)), zr 26 (.bin .eql (zt 25) (.const (.string ⟨#[120]⟩))), zr 27 (.mv (zt 26)), zg 28 27 true (.mv (zt 5)), zg 29 27 true (.lenl (zt 28)), zg 30 27 true (.bin .eql (zt 29) (zi 0)), zr 31 (.pick (zt 27) (zt 30) (.const (.bool false))), zr 32 (.mv (zt 31)), zg 33 32 true (.mv (zt 6)), zg 34 32 true (.b2s (zt 33)), zg 35 32 true (.bin .eql (zt 34) (.const (.string ⟨#[120]⟩))), zr 36 (.pick (zt 32) (zt 35) (.const (.bool false))), zr 37 (.mv (zt 36)), zg 38 37 true (.mv (zt 3)), ⟨(some 39), (some (37, true)), (.c (.fn 26 [(zt 38)])), []⟩, zg 40 37 true (.bin .eql (zt 39) (zi 1)), zr 41 (.pick (zt 37) (zt 40) (.const (.bool false))), zr 42 (.mv (zt 41)), zg 43 42 true (.mv (zt 3)), ⟨(some 44), (some (42, true)), (.c (.fn 28 [(zt 43)])), []⟩, zg 45 42 true (.bin .eql (zt 44) (zi 2)), zr 46 (.pick (zt 42) (zt 45) (.const (.bool false))), za 0 (zt 46)])
  .ret)))
def rc24 : RC := (.seq (.run [za 0 (.const (.bool false))])
  (.seq (.run [zc 8 18 [(.const (.string ⟨#[97, 58, 32, 115, 101, 110, 100, 32, 34, 120, 34, 59, 32, 101, 120, 112, 101, 99, 116, 32, 34, 121, 34, 32, 103, 111, 32, 98, 32, 97, 102, 116, 101, 114, 32, 50, 32, 103, 111, 32, 97, 59, 32, 98, 58, 32, 100, 111, 110, 101, 59]⟩))], zr 7 (.mv (zt 8)), zr 9 (.ext 0 (zt 7)), zr 10 (.ext 1 (zt 7)), za 1 (zt 9), za 2 (zt 10)])
  (.seq (.run [zr 12 (.mv (zt 1)), zc 13 25 [(zt 12)], zr 11 (.mv (zt 13)), zr 14 (.ext 0 (zt 11)), zr 15 (.ext 1 (zt 11)), za 3 (zt 14), za 4 (zt 15)])
  (.seq (.seq (.run [zr 16 (.mv (zt 3)), zr 17 (.eq false .ptr (zt 16) (.const (.pointer none)))])
  (.cond (zt 17)
  (.seq (.run [za 0 (.const (.bool false))])
  .ret)
  .skip))
  rc24_0))))
def ce24 : List (Nat × List Nat × List Nat) := []
def ro24 : List RO := [(.mv (zt 0))]
theorem ok24 : okFn Tryz.prog 24 47 ce24 = some (rc24, ro24) := by kernel_rfl
def rc25_0 : RC := (.seq (.run [zr 23 (.mv (zt 4)), zr 24 (.mv (zt 4)), zc 25 42 [(zt 24)], za 2 (zt 23), za 3 (zt 25)])
  .ret)
def rc25 : RC := (.seq (.run [za 2 (.const (.pointer none)), za 3 (.const (.slice none 0 0))])
  (.seq (.run [zr 7 (.mv (zt 0)), zf 8 (.app 29 7 96 (.const (.slice none 0 0)) (zt 7)), zf 9 (.mkm), zr 10 (.bld [(.slice none 0 0), (.int .i64 0), (.map none), (.pointer none), (.int .i64 0), (.int .i64 0), (.int .i64 0), (.slice none 0 0)] [(0, 1, (zt 8)), (2, 1, (zt 9))]), zf 11 (.bx 105 (zt 10)), za 4 (zt 11)])
  (.seq (.seq (.run [zr 13 (.mv (zt 0)), zc 14 32 [(zt 13)], zr 12 (.mv (zt 14)), zr 15 (.ext 0 (zt 12)), zr 16 (.ext 1 (zt 12)), za 5 (zt 15), za 6 (zt 16)])
  (.seq (.run [zr 17 (.mv (zt 6)), zr 18 (.eq true (.iface []) (zt 17) (.const .nilIface))])
  (.cond (zt 18)
  (.seq (.run [zr 19 (.mv (zt 4)), zr 20 (.nck (zt 19)), zr 21 (.fa 6 (zt 20)), ze (.st 1 (zt 21) (zi 2))])
  (.seq (.run [zr 22 (.mv (zt 4)), za 2 (zt 22), za 3 (.const (.slice none 0 0))])
  .ret))
  .skip)))
  rc25_0)))
def ce25 : List (Nat × List Nat × List Nat) := []
def ro25 : List RO := [(.mv (zt 2)), (.mv (zt 3))]
theorem ok25 : okFn Tryz.prog 25 26 ce25 = some (rc25, ro25) := by kernel_rfl
def rc26 : RC := (.seq (.run [za 2 (zi 0)])
  (.seq (.run [zr 3 (.mv (zt 0)), zr 4 (.nck (zt 3)), zr 5 (.fa 6 (zt 4)), zr 6 (.ld (zt 5)), za 2 (zt 6)])
  .ret))
def ce26 : List (Nat × List Nat × List Nat) := []
def ro26 : List RO := [(.mv (zt 2))]
theorem ok26 : okFn Tryz.prog 26 7 ce26 = some (rc26, ro26) := by kernel_rfl
def rc27_0 : RC := (.seq (.run [zr 27 (.mv (zt 0)), zr 28 (.nck (zt 27)), zr 29 (.fa 3 (zt 28)), ze (.st 1 (zt 29) (.const (.pointer none)))])
  (.seq (.run [zr 30 (.mv (zt 0)), zr 31 (.mv (zt 0)), zr 32 (.nck (zt 31)), zr 33 (.fa 0 (zt 32)), zr 34 (.ld (zt 33)), zr 35 (.mv (zt 0)), zr 36 (.nck (zt 35)), zr 37 (.fa 1 (zt 36)), zr 38 (.ld (zt 37)), zr 39 (.ia 7 (zt 34) (zt 38)), zr 40 (.fa 5 (zt 39)), zr 41 (.ld (zt 40)), zc 42 43 [(zt 30), (zt 41)]])
  (.seq (.run [zr 43 (.mv (zt 0)), zc 44 42 [(zt 43)], za 2 (zt 44)])
  .ret)))
def rc27_1 : RC := (.seq (.run [zr 15 (.mv (zt 0)), zr 16 (.nck (zt 15)), zr 17 (.fa 4 (zt 16)), zr 18 (.ld (zt 17)), zr 19 (.bin .sub (zt 18) (zi 1)), zr 20 (.nck (zt 15)), zr 21 (.fa 4 (zt 20)), ze (.st 1 (zt 21) (zt 19))])
  (.seq (.seq (.run [zr 22 (.mv (zt 0)), zr 23 (.nck (zt 22)), zr 24 (.fa 4 (zt 23)), zr 25 (.ld (zt 24)), zr 26 (.bin .gtr (zt 25) (zi 0))])
  (.cond (zt 26)
  (.seq (.run [za 2 (.const (.slice none 0 0))])
  .ret)
  .skip))
  rc27_0))
def rc27 : RC := (.seq (.run [za 2 (.const (.slice none 0 0))])
  (.seq (.seq (.run [zr 3 (.mv (zt 0)), zr 4 (.nck (zt 3)), zr 5 (.fa 6 (zt 4)), zr 6 (.ld (zt 5)), zr 7 (.bin .neq (zt 6) (zi 0)), zr 8 (.mv (zt 7)), zg 9 8 false (.mv (zt 0)), zg 10 8 false (.nck (zt 9)), zg 11 8 false (.fa 3 (zt 10)), zg 12 8 false (.ld (zt 11)), zg 13 8 false (.eq false .ptr (zt 12) (.const (.pointer none))), zr 14 (.pick (zt 8) (.const (.bool true)) (zt 13))])
  (.cond (zt 14)
  (.seq (.run [za 2 (.const (.slice none 0 0))])
  .ret)
  .skip))
  rc27_1))
def ce27 : List (Nat × List Nat × List Nat) := [(7, [0, 1, 2, 3, 4, 5, 6, 7, 8, 9, 10, 11, 12], [0, 0, 2, 6, 14, 0, 32, 96, 224, 510, 1022, 2046, 4095])]
def ro27 : List RO := [(.mv (zt 2))]
theorem ok27 : okFn Tryz.prog 27 45 ce27 = some (rc27, ro27) := by kernel_rfl
def rc28 : RC := (.seq (.run [za 2 (zi 0)])
  (.seq (.run [zr 3 (.mv (zt 0)), zr 4 (.nck (zt 3)), zr 5 (.fa 1 (zt 4)), zr 6 (.ld (zt 5)), za 2 (zt 6)])
  .ret))
def ce28 : List (Nat × List Nat × List Nat) := []
def ro28 : List RO := [(.mv (zt 2))]
theorem ok28 : okFn Tryz.prog 28 7 ce28 = some (rc28, ro28) := by kernel_rfl
def rc29_0 : RC := (.seq (.block 1 (.seq (.run [zr 10 (.mv (zt 8)), zr 11 (.ia 1 (zt 6) (zt 8)), zr 12 (.ld (zt 11)), za 4 (zt 10), za 5 (zt 12)])
  (.seq (.run [zr 13 (.mv (zt 4)), zr 14 (.bin .lss (zt 13) (zi 14))])
  (.cond (zt 14)
  (.run [zr 15 (.mv (zt 3)), zr 16 (.mv (zt 5)), zr 17 (.bin .rem (zt 16) (.const (.int .u8 3))), zr 18 (.mv (zt 5)), zr 19 (.bin .rem (zt 18) (.const (.int .u8 3))), zr 20 (.bin .add (zt 19) (.const (.int .u8 1))), zr 21 (.sls (.const (.string ⟨#[97, 98, 99]⟩)) (some (zt 17)) (some (zt 20))), zr 22 (.bin .add (zt 15) (zt 21)), za 3 (zt 22)])
  .skip))))
  (.run [zr 23 (.bin .add (zt 8) (zi 1)), zr 8 (.mv (zt 23))]))
def rc29_1 : RC := (.seq (.run [zr 9 (.bin .lss (zt 8) (zt 7))])
  (.seq (.cond (zt 9)
  .skip
  (.exit 0))
  rc29_0))
def rc29_2 : RC := (.seq (.run [zr 24 (.mv (zt 3)), za 2 (zt 24)])
  .ret)
def rc29 : RC := (.seq (.run [za 2 (.const (.string ⟨#[]⟩))])
  (.seq (.run [za 3 (.const (.string ⟨#[]⟩))])
  (.seq (.seq (.run [zr 6 (.mv (zt 0)), zr 7 (.lenl (zt 6)), zr 8 (.mv (zi 0))])
  (.block 0 (.loop rc29_1)))
  rc29_2)))
def ce29 : List (Nat × List Nat × List Nat) := []
def ro29 : List RO := [(.mv (zt 2))]
theorem ok29 : okFn Tryz.prog 29 25 ce29 = some (rc29, ro29) := by kernel_rfl
def rc30_0 : RC := (.seq (.run [zr 30 (.mv (zt 0)), zr 31 (.mv (zt 0)), zr 32 (.nck (zt 31)), zr 33 (.fa 7 (zt 32)), zr 34 (.ld (zt 33)), zr 35 (.mv (zt 5)), zf 36 (.bsl 3 1 1 [(.int .i64 0)] [(0, 1, (zt 35))]), zf 37 (.app 3 1 8 (zt 34) (zt 36)), zr 38 (.nck (zt 30)), zr 39 (.fa 7 (zt 38)), ze (.st 1 (zt 39) (zt 37))])
  (.seq (.run [zr 40 (.mv (zt 0)), zr 41 (.nck (zt 40)), zr 42 (.fa 3 (zt 41)), ze (.st 1 (zt 42) (.const (.pointer none)))])
  (.seq (.run [zr 43 (.mv (zt 0)), zr 44 (.mv (zt 0)), zr 45 (.nck (zt 44)), zr 46 (.fa 0 (zt 45)), zr 47 (.ld (zt 46)), zr 48 (.mv (zt 0)), zr 49 (.nck (zt 48)), zr 50 (.fa 1 (zt 49)), zr 51 (.ld (zt 50)), zr 52 (.ia 7 (zt 47) (zt 51)), zr 53 (.fa 3 (zt 52)), zr 54 (.ld (zt 53)), zr 55 (.mv (zt 5)), zr 56 (.ia 2 (zt 54) (zt 55)), zr 57 (.fa 1 (zt 56)), zr 58 (.ld (zt 57)), zc 59 43 [(zt 43), (zt 58)]])
  (.seq (.run [zr 60 (.mv (zt 0)), zc 61 42 [(zt 60)], za 4 (zt 61)])
  .ret))))
def rc30_1 : RC := (.seq (.run [zr 20 (.mv (zt 0)), zr 21 (.nck (zt 20)), zr 22 (.fa 3 (zt 21)), zr 23 (.ld (zt 22)), zr 24 (.mv (zt 1)), zc 25 44 [(zt 23), (zt 24)], zr 19 (.mv (zt 25)), zr 26 (.ext 0 (zt 19)), zr 27 (.ext 1 (zt 19)), za 5 (zt 26), za 6 (zt 27)])
  (.seq (.seq (.run [zr 28 (.mv (zt 6)), zr 29 (.not (zt 28))])
  (.cond (zt 29)
  (.seq (.run [za 4 (.const (.slice none 0 0))])
  .ret)
  .skip))
  rc30_0))
def rc30 : RC := (.seq (.run [za 4 (.const (.slice none 0 0))])
  (.seq (.seq (.run [zr 7 (.mv (zt 0)), zr 8 (.nck (zt 7)), zr 9 (.fa 6 (zt 8)), zr 10 (.ld (zt 9)), zr 11 (.bin .neq (zt 10) (zi 0)), zr 12 (.mv (zt 11)), zg 13 12 false (.mv (zt 0)), zg 14 12 false (.nck (zt 13)), zg 15 12 false (.fa 3 (zt 14)), zg 16 12 false (.ld (zt 15)), zg 17 12 false (.eq false .ptr (zt 16) (.const (.pointer none))), zr 18 (.pick (zt 12) (.const (.bool true)) (zt 17))])
  (.cond (zt 18)
  (.seq (.run [za 4 (.const (.slice none 0 0))])
  .ret)
  .skip))
  rc30_1))
def ce30 : List (Nat × List Nat × List Nat) := [(8, [0, 1, 2, 3, 4, 5, 6, 7, 8, 9, 10, 11, 12, 13, 14, 15, 16], [0, 0, 2, 6, 14, 0, 32, 96, 224, 510, 1022, 2046, 0, 8190, 16382, 32766, 65535])]
def ro30 : List RO := [(.mv (zt 4))]
theorem ok30 : okFn Tryz.prog 30 62 ce30 = some (rc30, ro30) := by kernel_rfl
def rc32_0 : RC := (.run [⟨(some 75), none, (.e (.app 9 1 16 (zt 71) (zt 74))), [(78, none, .ld (zt 77))]⟩, ⟨(some 79), none, (.e (.bsl 9 1 1 [(.string ⟨#[]⟩)] [(0, 1, (zt 78))])), [(73, none, .ld (zt 72))]⟩, zf 80 (.app 9 1 16 (zt 76) (zt 79)), za 6 (zt 75), za 7 (zt 80)])
def rc32_1 : RC := (.run [⟨(some 79), none, (.e (.bsl 9 1 1 [(.string ⟨#[]⟩)] [(0, 1, (zt 78))])), [(73, none, .ld (zt 72))]⟩, ⟨(some 75), none, (.e (.app 9 1 16 (zt 71) (zt 74))), [(78, none, .ld (zt 77))]⟩, zf 80 (.app 9 1 16 (zt 76) (zt 79)), za 6 (zt 75), za 7 (zt 80)])
def rc32_2 : RC := (.fork [⟨(some 74), none, (.e (.bsl 9 1 1 [(.string ⟨#[]⟩)] [(0, 1, (zt 73))])), [(78, none, .ld (zt 77))]⟩]
  rc32_0
  rc32_1)
def rc32_3 : RC := (.run [⟨(some 79), none, (.e (.bsl 9 1 1 [(.string ⟨#[]⟩)] [(0, 1, (zt 78))])), [(73, none, .ld (zt 72))]⟩, ⟨(some 74), none, (.e (.bsl 9 1 1 [(.string ⟨#[]⟩)] [(0, 1, (zt 73))])), [(78, none, .ld (zt 77))]⟩, ⟨(some 75), none, (.e (.app 9 1 16 (zt 71) (zt 74))), [(78, none, .ld (zt 77))]⟩, zf 80 (.app 9 1 16 (zt 76) (zt 79)), za 6 (zt 75), za 7 (zt 80)])
def rc32_4 : RC := (.seq (.block 3 (.seq (.run [zr 69 (.ia 2 (zt 65) (zt 67)), zr 70 (.ldn 2 (zt 69)), zf 9 (.al [(.string ⟨#[]⟩), (.string ⟨#[]⟩)] 49), ze (.st 2 (zt 9) (zt 70))])
  (.sem (.fork [zr 71 (.mv (zt 6)), zr 72 (.fa 1 (zt 9)), zr 73 (.ld (zt 72)), zr 76 (.mv (zt 7)), zr 77 (.fa 0 (zt 9)), zr 78 (.ld (zt 77))]
  rc32_2
  rc32_3))))
  (.run [zr 81 (.bin .add (zt 67) (zi 1)), zr 67 (.mv (zt 81))]))
def rc32_5 : RC := (.seq (.run [zr 68 (.bin .lss (zt 67) (zt 66))])
  (.seq (.cond (zt 68)
  .skip
  (.exit 2))
  rc32_4))
def rc32_6 : RC := (.seq (.run [zr 83 (.mv (zt 7)), zc 84 45 [(zt 83)], zr 82 (.mv (zt 84)), zr 85 (.ext 0 (zt 82)), zr 86 (.ext 1 (zt 82)), za 10 (zt 85), za 11 (zt 86)])
  (.seq (.run [zr 87 (.mv (zt 11)), zr 88 (.eq true (.iface []) (zt 87) (.const .nilIface))])
  (.cond (zt 88)
  (.seq (.run [zr 89 (.mv (zt 4)), zr 90 (.mv (zt 11)), zc 91 19 [(zt 90)], zr 92 (.mki 39 (zt 91)), za 2 (zt 89), za 3 (zt 92)])
  .ret)
  .skip)))
def rc32_7 : RC := (.seq (.block 5 (.seq (.run [zr 97 (.ia 1 (zt 93) (zt 95)), zr 98 (.ld (zt 97)), za 13 (zt 98)])
  (.seq (.run [zr 99 (.mv (zt 0)), zr 100 (.mv (zt 13)), zc 101 14 [(zt 99), (zt 100)], zr 102 (.bin .lss (zt 101) (zi 0))])
  (.cond (zt 102)
  (.seq (.run [zr 103 (.mv (zt 4)), zr 104 (.mki 39 (zi 3)), za 2 (zt 103), za 3 (zt 104)])
  .ret)
  .skip))))
  (.run [zr 105 (.bin .add (zt 95) (zi 1)), zr 95 (.mv (zt 105))]))
def rc32_8 : RC := (.seq (.run [zr 96 (.bin .lss (zt 95) (zt 94))])
  (.seq (.cond (zt 96)
  .skip
  (.exit 4))
  rc32_7))
def rc32_9 : RC := (.seq (.run [zr 93 (.mv (zt 6)), zr 94 (.lenl (zt 93)), zr 95 (.mv (zi 0))])
  (.block 4 (.loop rc32_8)))
def rc32_10 : RC := (.seq (.run [za 7 (.const (.slice none 0 0))])
  (.seq (.seq (.run [zr 61 (.fa 1 (zt 5)), zr 62 (.ld (zt 61)), zr 63 (.bin .eql (zt 62) (zi 1))])
  (.cond (zt 63)
  (.seq (.seq (.run [zr 64 (.fa 3 (zt 5)), zr 65 (.ld (zt 64)), zr 66 (.lenl (zt 65)), zr 67 (.mv (zi 0))])
  (.block 2 (.loop rc32_5)))
  rc32_6)
  .skip))
  rc32_9))
def rc32_11 : RC := (.seq (.run [za 6 (.const (.slice none 0 0))])
  (.seq (.seq (.run [zr 43 (.fa 1 (zt 5)), zr 44 (.ld (zt 43)), zr 45 (.bin .eql (zt 44) (zi 1)), zr 46 (.mv (zt 45)), zg 47 46 false (.fa 1 (zt 5)), zg 48 46 false (.ld (zt 47)), zg 49 46 false (.bin .eql (zt 48) (zi 2)), zr 50 (.pick (zt 46) (.const (.bool true)) (zt 49)), zr 51 (.mv (zt 50)), zg 52 51 false (.fa 1 (zt 5)), zg 53 51 false (.ld (zt 52)), zg 54 51 false (.bin .eql (zt 53) (zi 3)), zr 55 (.pick (zt 51) (.const (.bool true)) (zt 54))])
  (.cond (zt 55)
  (.run [zr 56 (.mv (zt 6)), zr 57 (.fa 5 (zt 5)), zr 58 (.ld (zt 57)), zf 59 (.bsl 9 1 1 [(.string ⟨#[]⟩)] [(0, 1, (zt 58))]), zf 60 (.app 9 1 16 (zt 56) (zt 59)), za 6 (zt 60)])
  .skip))
  rc32_10))
def rc32_12 : RC := (.seq (.block 1 (.seq (.run [zr 27 (.mv (zt 25)), zr 28 (.ia 7 (zt 23) (zt 25)), zr 29 (.ldn 7 (zt 28)), zf 5 (.al [(.string ⟨#[]⟩), (.int .i64 0), (.string ⟨#[]⟩), (.slice none 0 0), (.int .i64 0), (.string ⟨#[]⟩), (.int .i64 0)] 29), za 4 (zt 27), ze (.st 7 (zt 5) (zt 29))])
  (.seq (.seq (.run [zr 30 (.fa 0 (zt 5)), zr 31 (.ld (zt 30)), zr 32 (.bin .neq (zt 31) (.const (.string ⟨#[]⟩))), zr 33 (.mv (zt 32)), zg 34 33 true (.mv (zt 0)), zg 35 33 true (.fa 0 (zt 5)), zg 36 33 true (.ld (zt 35)), ⟨(some 37), (some (33, true)), (.c (.fn 14 [(zt 34), (zt 36)])), []⟩, zg 38 33 true (.mv (zt 4)), zg 39 33 true (.bin .neq (zt 37) (zt 38)), zr 40 (.pick (zt 33) (zt 39) (.const (.bool false)))])
  (.cond (zt 40)
  (.seq (.run [zr 41 (.mv (zt 4)), zr 42 (.mki 39 (zi 4)), za 2 (zt 41), za 3 (zt 42)])
  .ret)
  .skip))
  rc32_11)))
  (.run [zr 106 (.bin .add (zt 25) (zi 1)), zr 25 (.mv (zt 106))]))
def rc32_13 : RC := (.seq (.run [zr 26 (.bin .lss (zt 25) (zt 24))])
  (.seq (.cond (zt 26)
  .skip
  (.exit 0))
  rc32_12))
def rc32_14 : RC := (.seq (.run [za 2 (zi 0), za 3 (.const .nilIface)])
  .ret)
def rc32_15 : RC := (.seq (.seq (.run [zr 23 (.mv (zt 0)), zr 24 (.lenl (zt 23)), zr 25 (.mv (zi 0))])
  (.block 0 (.loop rc32_13)))
  rc32_14)
def rc32 : RC := (.seq (.run [za 2 (zi 0), za 3 (.const .nilIface)])
  (.seq (.seq (.run [zr 14 (.mv (zt 0)), zr 15 (.lenl (zt 14)), zr 16 (.bin .eql (zt 15) (zi 0)), zr 17 (.mv (zt 16)), zg 18 17 false (.mv (zt 0)), zg 19 17 false (.lenl (zt 18)), zg 20 17 false (.bin .gtr (zt 19) (zi 64)), zr 21 (.pick (zt 17) (.const (.bool true)) (zt 20))])
  (.cond (zt 21)
  (.seq (.run [zr 22 (.mki 39 (zi 7)), za 2 (zi (-1)), za 3 (zt 22)])
  .ret)
  .skip))
  rc32_15))
def ce32 : List (Nat × List Nat × List Nat) := [(16, [0, 1, 2, 5, 6, 7, 1000, 3, 1000, 4, 8, 9, 10, 11, 1001, 8, 4, 9, 10, 11, 1001, 8, 3, 4, 9, 10, 11], [0, 0, 2, 6, 15, 0, 0, 64, 192, 511, 1023, 2047])]
def ro32 : List RO := [(.mv (zt 2)), (.mv (zt 3))]
theorem ok32 : okFn Tryz.prog 32 107 ce32 = some (rc32, ro32) := by kernel_rfl
def rc35_0 : RC := (.block 1 (.run [zr 53 (.mv (zt 5)), zr 54 (.bin .add (zt 53) (zi 1)), za 5 (zt 54)]))
def rc35_1 : RC := (.seq (.seq (.run [zr 43 (.mv (zt 5)), zr 44 (.mv (zt 0)), zr 45 (.lens (zt 44)), zr 46 (.bin .lss (zt 43) (zt 45)), zr 47 (.mv (zt 46)), zg 48 47 true (.mv (zt 0)), zg 49 47 true (.mv (zt 5)), zg 50 47 true (.ixs (zt 48) (zt 49)), zg 51 47 true (.bin .neq (zt 50) (.const (.int .u8 10))), zr 52 (.pick (zt 47) (zt 51) (.const (.bool false)))])
  (.cond (zt 52)
  .skip
  (.exit 0)))
  rc35_0)
def rc35_2 : RC := (.seq (.run [zr 66 (.mv (zt 5)), zr 67 (.fa 3 (zt 6)), ze (.st 1 (zt 67) (zt 66))])
  (.seq (.run [zr 68 (.mv (zt 4)), zr 69 (.ldn 4 (zt 6)), zf 70 (.bsl 87 4 1 [(.int .i64 0), (.string ⟨#[]⟩), (.int .i64 0), (.int .i64 0)] [(0, 4, (zt 69))]), zf 71 (.app 87 4 40 (zt 68) (zt 70)), za 4 (zt 71)])
  (.seq (.run [zr 72 (.mv (zt 5)), zr 73 (.mv (zt 7)), zr 74 (.bin .add (zt 72) (zt 73)), za 5 (zt 74)])
  (.goto 0))))
def rc35_3 : RC := (.seq (.run [zr 56 (.mv (zt 0)), zr 57 (.mv (zt 5)), zr 58 (.sls (zt 56) (some (zt 57)) none), zc 59 48 [(zt 58)], zr 55 (.mv (zt 59)), zr 60 (.ext 0 (zt 55)), zr 61 (.ext 1 (zt 55)), zf 6 (.al [(.int .i64 0), (.string ⟨#[]⟩), (.int .i64 0), (.int .i64 0)] 87), ze (.st 4 (zt 6) (zt 60)), za 7 (zt 61)])
  (.seq (.seq (.run [zr 62 (.mv (zt 7)), zr 63 (.bin .eql (zt 62) (zi 0))])
  (.cond (zt 63)
  (.seq (.run [zr 64 (.mv (zt 5)), zc 65 47 [(zi 1), (zt 64)], za 2 (.const (.slice none 0 0)), za 3 (zt 65)])
  .ret)
  .skip))
  rc35_2))
def rc35_4 : RC := (.seq (.seq (.run [zr 39 (.mv (zt 0)), zr 40 (.mv (zt 5)), zr 41 (.ixs (zt 39) (zt 40)), zr 42 (.bin .eql (zt 41) (.const (.int .u8 35)))])
  (.cond (zt 42)
  (.seq (.block 0 (.loop rc35_1))
  (.goto 0))
  .skip))
  rc35_3)
def rc35_5 : RC := (.seq (.seq (.run [zr 21 (.mv (zt 0)), zr 22 (.mv (zt 5)), zr 23 (.ixs (zt 21) (zt 22)), zr 24 (.bin .eql (zt 23) (.const (.int .u8 32))), zr 25 (.mv (zt 24)), zg 26 25 false (.mv (zt 0)), zg 27 25 false (.mv (zt 5)), zg 28 25 false (.ixs (zt 26) (zt 27)), zg 29 25 false (.bin .eql (zt 28) (.const (.int .u8 9))), zr 30 (.pick (zt 25) (.const (.bool true)) (zt 29)), zr 31 (.mv (zt 30)), zg 32 31 false (.mv (zt 0)), zg 33 31 false (.mv (zt 5)), zg 34 31 false (.ixs (zt 32) (zt 33)), zg 35 31 false (.bin .eql (zt 34) (.const (.int .u8 10))), zr 36 (.pick (zt 31) (.const (.bool true)) (zt 35))])
  (.cond (zt 36)
  (.seq (.run [zr 37 (.mv (zt 5)), zr 38 (.bin .add (zt 37) (zi 1)), za 5 (zt 38)])
  (.goto 0))
  .skip))
  rc35_4)
def rc35_6 : RC := (.seq (.seq (.run [zr 12 (.mv (zt 5)), zr 13 (.mv (zt 0)), zr 14 (.lens (zt 13)), zr 15 (.bin .eql (zt 12) (zt 14))])
  (.cond (zt 15)
  (.seq (.run [zr 16 (.mv (zt 4)), zr 17 (.mv (zt 5)), zr 18 (.bld [(.int .i64 0), (.string ⟨#[]⟩), (.int .i64 0), (.int .i64 0)] [(0, 1, (zi 0)), (3, 1, (zt 17))]), zf 19 (.bsl 87 4 1 [(.int .i64 0), (.string ⟨#[]⟩), (.int .i64 0), (.int .i64 0)] [(0, 4, (zt 18))]), zf 20 (.app 87 4 40 (zt 16) (zt 19)), za 2 (zt 20), za 3 (.const .nilIface)])
  .ret)
  .skip))
  rc35_5)
def rc35_7 : RC := (.seq (.run [za 4 (.const (.slice none 0 0))])
  (.seq (.run [za 5 (zi 0)])
  (.seq (.label 0)
  rc35_6)))
def rc35_8 : RC := (.seq .skip
  rc35_6)
def rc35 : RC := (.seq (.run [za 2 (.const (.slice none 0 0)), za 3 (.const .nilIface)])
  (.jumps (.seq (.seq (.run [zr 8 (.mv (zt 0)), zr 9 (.lens (zt 8)), zr 10 (.bin .gtr (zt 9) (zi 4096))])
  (.cond (zt 10)
  (.seq (.run [zc 11 47 [(zi 7), (zi 0)], za 2 (.const (.slice none 0 0)), za 3 (zt 11)])
  .ret)
  .skip))
  rc35_7) 0 rc35_8 0 rc35_8))
def ce35 : List (Nat × List Nat × List Nat) := []
def ro35 : List RO := [(.mv (zt 2)), (.mv (zt 3))]
theorem ok35 : okFn Tryz.prog 35 75 ce35 = some (rc35, ro35) := by kernel_rfl
def rc36_0 : RC := (.block 1 (.run [zr 47 (.mv (zt 5)), zr 48 (.bin .add (zt 47) (zi 1)), za 5 (zt 48)]))
def rc36_1 : RC := (.seq (.seq (.run [zr 34 (.mv (zt 5)), zc 35 51 [], zr 36 (.lenl (zt 35)), zr 37 (.bin .lss (zt 34) (zt 36)), zr 38 (.mv (zt 37)), zg 40 38 true (.mv (zt 5)), zg 43 38 true (.fa 1 (zt 4)), zg 44 38 true (.ld (zt 43)), ⟨(some 39), (some (38, true)), (.c (.fn 51 [])), [(44, (some (38, true)), .ld (zt 43))]⟩, zg 41 38 true (.ia 1 (zt 39) (zt 40)), zg 42 38 true (.ld (zt 41)), zg 45 38 true (.bin .neq (zt 42) (zt 44)), zr 46 (.pick (zt 38) (zt 45) (.const (.bool false)))])
  (.cond (zt 46)
  .skip
  (.exit 0)))
  rc36_0)
def rc36_2 : RC := (.cond (zt 97)
  .skip
  (.seq (.run [zr 53 (.mv (zt 0)), zr 54 (.nck (zt 53)), zr 55 (.fa 2 (zt 54)), zr 56 (.ld (zt 55)), zr 57 (.eq false (.iface []) (zt 56) (.const .nilIface))])
  (.cond (zt 57)
  (.run [zr 58 (.mv (zt 0)), zr 59 (.fa 3 (zt 4)), zr 60 (.ld (zt 59)), zc 61 47 [(zi 3), (zt 60)], zr 62 (.nck (zt 58)), zr 63 (.fa 2 (zt 62)), ze (.st 1 (zt 63) (zt 61))])
  .skip)))
def rc36_3 : RC := (.seq (.run [zr 100 (.mv (zt 0)), zc 101 49 [(zt 100), (zi 4), (.const (.string ⟨#[59]⟩))]])
  (.seq (.run [zr 102 (.ldn 7 (zt 3)), ze (.st 7 (zt 2) (zt 102))])
  .ret))
def rc36_4 : RC := (.seq (.run [zr 49 (.mv (zt 5)), zr 50 (.fa 1 (zt 3)), ze (.st 1 (zt 50) (zt 49))])
  (.seq (.seq (.run [zr 51 (.fa 1 (zt 3)), zr 52 (.ld (zt 51))])
  (.block 2 (.seq (.run [zr 65 (.bin .eql (zt 52) (zi 0)), za 64 (zt 65)])
  (.cond (zt 64)
  (.run [zr 66 (.mv (zt 0)), zc 67 49 [(zt 66), (zi 3), (.const (.string ⟨#[]⟩))], zr 68 (.fld 1 0 (zt 67)), zr 69 (.fa 2 (zt 3)), ze (.st 1 (zt 69) (zt 68))])
  (.seq (.run [zr 71 (.bin .eql (zt 52) (zi 1)), za 70 (zt 71)])
  (.cond (zt 70)
  (.seq (.run [zr 72 (.mv (zt 0)), zc 73 52 [(zt 72)], zr 74 (.fa 3 (zt 3)), ze (.st 1 (zt 74) (zt 73))])
  (.seq (.run [zr 75 (.mv (zt 0)), zc 76 49 [(zt 75), (zi 1), (.const (.string ⟨#[97, 102, 116, 101, 114]⟩))]])
  (.seq (.run [zr 77 (.mv (zt 0)), zc 78 53 [(zt 77), (zi 99)], zr 79 (.fa 4 (zt 3)), ze (.st 1 (zt 79) (zt 78))])
  (.run [zr 80 (.mv (zt 0)), zc 81 54 [(zt 80)], zr 82 (.fa 5 (zt 3)), ze (.st 1 (zt 82) (zt 81))]))))
  (.seq (.run [zr 84 (.bin .eql (zt 52) (zi 2)), za 83 (zt 84)])
  (.cond (zt 83)
  (.run [zr 85 (.mv (zt 0)), zc 86 49 [(zt 85), (zi 1), (.const (.string ⟨#[]⟩))], zr 87 (.fld 1 0 (zt 86)), zr 88 (.fa 5 (zt 3)), ze (.st 1 (zt 88) (zt 87))])
  (.seq (.run [zr 90 (.bin .eql (zt 52) (zi 3)), za 89 (zt 90)])
  (.cond (zt 89)
  (.seq (.run [zr 91 (.mv (zt 0)), zc 92 53 [(zt 91), (zi 9)], zr 93 (.fa 4 (zt 3)), ze (.st 1 (zt 93) (zt 92))])
  (.run [zr 94 (.mv (zt 0)), zc 95 54 [(zt 94)], zr 96 (.fa 5 (zt 3)), ze (.st 1 (zt 96) (zt 95))]))
  (.seq (.seq (.run [zr 98 (.bin .eql (zt 52) (zi 4)), za 97 (zt 98)])
  (.cond (zt 97)
  .skip
  (.run [zr 99 (.bin .eql (zt 52) (zi 5)), za 97 (zt 99)])))
  rc36_2)))))))))))
  rc36_3))
def rc36_5 : RC := (.seq (.run [za 5 (zi 0)])
  (.seq (.block 0 (.loop rc36_1))
  rc36_4))
def rc36 : RC := (.seq (.run [zf 2 (.al [(.string ⟨#[]⟩), (.int .i64 0), (.string ⟨#[]⟩), (.slice none 0 0), (.int .i64 0), (.string ⟨#[]⟩), (.int .i64 0)] 29)])
  (.seq (.run [zr 6 (.mv (zt 0)), zr 7 (.nck (zt 6)), zr 8 (.fa 0 (zt 7)), zr 9 (.ld (zt 8)), zr 10 (.mv (zt 0)), zr 11 (.nck (zt 10)), zr 12 (.fa 1 (zt 11)), zr 13 (.ld (zt 12)), zr 14 (.ia 4 (zt 9) (zt 13)), zr 15 (.fa 3 (zt 14)), zr 16 (.ld (zt 15)), zr 17 (.bld [(.string ⟨#[]⟩), (.int .i64 0), (.string ⟨#[]⟩), (.slice none 0 0), (.int .i64 0), (.string ⟨#[]⟩), (.int .i64 0)] [(6, 1, (zt 16))]), ⟨(some 3), none, (.e (.al [(.string ⟨#[]⟩), (.int .i64 0), (.string ⟨#[]⟩), (.slice none 0 0), (.int .i64 0), (.string ⟨#[]⟩), (.int .i64 0)] 29)), [(9, none, .ld (zt 8)), (13, none, .ld (zt 12)), (16, none, .ld (zt 15))]⟩, ze (.st 7 (zt 3) (zt 17))])
  (.seq (.run [zr 18 (.mv (zt 0)), zc 19 49 [(zt 18), (zi 1), (.const (.string ⟨#[]⟩))], zf 4 (.al [(.int .i64 0), (.string ⟨#[]⟩), (.int .i64 0), (.int .i64 0)] 87), ze (.st 4 (zt 4) (zt 19))])
  (.seq (.seq (.run [zr 20 (.mv (zt 0)), zc 21 50 [(zt 20), (zi 4), (.const (.string ⟨#[58]⟩))]])
  (.cond (zt 21)
  (.seq (.run [zr 22 (.mv (zt 0)), zr 23 (.nck (zt 22)), zr 24 (.fa 1 (zt 23)), zr 25 (.ld (zt 24)), zr 26 (.bin .add (zt 25) (zi 1)), zr 27 (.nck (zt 22)), zr 28 (.fa 1 (zt 27)), ze (.st 1 (zt 28) (zt 26))])
  (.seq (.run [zr 29 (.fa 1 (zt 4)), zr 30 (.ld (zt 29)), zr 31 (.fa 0 (zt 3)), ze (.st 1 (zt 31) (zt 30))])
  (.run [zr 32 (.mv (zt 0)), zc 33 49 [(zt 32), (zi 1), (.const (.string ⟨#[]⟩))], ze (.st 4 (zt 4) (zt 33))])))
  .skip))
  rc36_5))))
def ce36 : List (Nat × List Nat × List Nat) := [(1, [0, 1, 2, 3, 4, 5, 6, 7, 8, 9, 10, 11, 12, 13], [0, 1, 3, 7, 0, 16, 48, 112, 255, 511, 1023, 2047, 0, 8191]), (8, [0, 1, 2, 3, 4, 6, 9, 10, 5, 7, 8, 11, 12], [0, 0, 2, 7, 15, 31, 31, 127, 255, 31, 543, 2047, 4095])]
def ro36 : List RO := [(.ldn 7 (zt 2))]
theorem ok36 : okFn Tryz.prog 36 103 ce36 = some (rc36, ro36) := by kernel_rfl
def rc37_0 : RC := (.seq (.run [zr 37 (.mv (zt 0)), zr 38 (.mv (zt 1)), zr 39 (.ldn 3 (zt 5)), zr 40 (.mv (zt 7)), zc 41 58 [(zt 37), (zt 38), (zt 39), (zt 40)], za 4 (zt 41)])
  .ret)
def rc37_1 : RC := (.seq (.run [zr 25 (.mv (zt 6)), ⟨(some 26), none, (.c (.inv (zt 25) "Elem" [])), []⟩, za 7 (zt 26)])
  (.seq (.seq (.run [zr 27 (.mv (zt 7)), ⟨(some 28), none, (.c (.inv (zt 27) "Kind" [])), []⟩, zr 29 (.bin .neq (zt 28) (.const (.int .u8 20))), zr 30 (.mv (zt 29)), zg 31 30 true (.mv (zt 7)), zg 32 30 true (.ld (.global 0)), ⟨(some 33), (some (30, true)), (.c (.inv (zt 31) "Implements" [(zt 32)])), []⟩, zg 34 30 true (.not (zt 33)), zr 35 (.pick (zt 30) (zt 34) (.const (.bool false)))])
  (.cond (zt 35)
  (.run [zr 36 (.mki 9 (.const (.string ⟨#[101, 114, 114, 111, 114, 115, 58, 32, 42, 116, 97, 114, 103, 101, 116, 32, 109, 117, 115, 116, 32, 98, 101, 32, 105, 110, 116, 101, 114, 102, 97, 99, 101, 32, 111, 114, 32, 105, 109, 112, 108, 101, 109, 101, 110, 116, 32, 101, 114, 114, 111, 114]⟩))), ⟨none, none, .bad, []⟩])
  .skip))
  rc37_0))
def rc37_2 : RC := (.seq (.run [zr 13 (.mv (zt 1)), zc 14 55 [(zt 13)], zf 5 (.al [(.pointer none), (.pointer none), (.int .u64 0)] 124), ze (.st 3 (zt 5) (zt 14))])
  (.seq (.run [zr 15 (.ldn 3 (zt 5)), zc 16 56 [(zt 15)], za 6 (zt 16)])
  (.seq (.seq (.run [zr 17 (.mv (zt 6)), ⟨(some 18), none, (.c (.inv (zt 17) "Kind" [])), []⟩, zr 19 (.bin .neq (zt 18) (.const (.int .u8 22))), zr 20 (.mv (zt 19)), zg 21 20 false (.ldn 3 (zt 5)), ⟨(some 22), (some (20, false)), (.c (.fn 57 [(zt 21)])), []⟩, zr 23 (.pick (zt 20) (.const (.bool true)) (zt 22))])
  (.cond (zt 23)
  (.run [zr 24 (.mki 9 (.const (.string ⟨#[101, 114, 114, 111, 114, 115, 58, 32, 116, 97, 114, 103, 101, 116, 32, 109, 117, 115, 116, 32, 98, 101, 32, 97, 32, 110, 111, 110, 45, 110, 105, 108, 32, 112, 111, 105, 110, 116, 101, 114]⟩))), ⟨none, none, .bad, []⟩])
  .skip))
  rc37_1)))
def rc37_3 : RC := (.seq (.seq (.run [zr 10 (.mv (zt 1)), zr 11 (.eq false (.iface []) (zt 10) (.const .nilIface))])
  (.cond (zt 11)
  (.run [zr 12 (.mki 9 (.const (.string ⟨#[101, 114, 114, 111, 114, 115, 58, 32, 116, 97, 114, 103, 101, 116, 32, 99, 97, 110, 110, 111, 116, 32, 98, 101, 32, 110, 105, 108]⟩))), ⟨none, none, .bad, []⟩])
  .skip))
  rc37_2)
def rc37 : RC := (.seq (.run [za 4 (.const (.bool false))])
  (.seq (.seq (.run [zr 8 (.mv (zt 0)), zr 9 (.eq false (.iface []) (zt 8) (.const .nilIface))])
  (.cond (zt 9)
  (.seq (.run [za 4 (.const (.bool false))])
  .ret)
  .skip))
  rc37_3))
def ce37 : List (Nat × List Nat × List Nat) := []
def ro37 : List RO := [(.mv (zt 4))]
theorem ok37 : okFn Tryz.prog 37 42 ce37 = some (rc37, ro37) := by kernel_rfl
def rc40 : RC := (.seq (.run [za 2 (.const (.string ⟨#[]⟩))])
  (.seq (.run [zr 3 (.mv (zt 0)), zr 4 (.nck (zt 3)), zr 5 (.fa 1 (zt 4)), zr 6 (.ld (zt 5)), zr 7 (.usd (zt 6)), zr 8 (.mv (zt 0)), zr 9 (.nck (zt 8)), zr 10 (.fa 1 (zt 9)), zr 11 (.ld (zt 10)), zr 12 (.lenl (zt 11)), zf 13 (.ust 5 (zt 7) (zt 12)), za 2 (zt 13)])
  .ret))
def ce40 : List (Nat × List Nat × List Nat) := [(1, [0, 1, 2, 3, 4, 5, 6, 7, 8, 9, 10, 11], [0, 1, 3, 7, 15, 0, 32, 96, 224, 480, 1023, 2047])]
def ro40 : List RO := [(.mv (zt 2))]
theorem ok40 : okFn Tryz.prog 40 14 ce40 = some (rc40, ro40) := by kernel_rfl
def rc42_0 : RC := (.seq (.block 1 (.seq (.seq (.run [zr 19 (.mv (zt 4)), zr 20 (.bin .eql (zt 19) (zi 256)), zr 21 (.mv (zt 20)), zg 22 21 false (.mv (zt 0)), zg 23 21 false (.nck (zt 22)), zg 24 21 false (.fa 1 (zt 23)), zg 25 21 false (.ld (zt 24)), zg 26 21 false (.mv (zt 0)), zg 27 21 false (.nck (zt 26)), zg 28 21 false (.fa 0 (zt 27)), zg 29 21 false (.ld (zt 28)), zg 30 21 false (.lenl (zt 29)), zg 31 21 false (.bin .geq (zt 25) (zt 30)), zr 32 (.pick (zt 21) (.const (.bool true)) (zt 31))])
  (.cond (zt 32)
  (.seq (.run [zr 33 (.mv (zt 0)), zr 34 (.nck (zt 33)), zr 35 (.fa 6 (zt 34)), ze (.st 1 (zt 35) (zi 2))])
  (.exit 0))
  .skip))
  (.run [zr 36 (.mv (zt 3)), zr 37 (.mv (zt 0)), zr 38 (.mv (zt 0)), zr 39 (.nck (zt 38)), zr 40 (.fa 0 (zt 39)), zr 41 (.ld (zt 40)), zr 42 (.mv (zt 0)), zr 43 (.nck (zt 42)), zr 44 (.fa 1 (zt 43)), zr 45 (.ld (zt 44)), zr 46 (.ia 7 (zt 41) (zt 45)), zr 47 (.ldn 7 (zt 46)), zc 48 63 [(zt 37), (zt 47)], zf 49 (.app 5 1 1 (zt 36) (zt 48)), za 3 (zt 49)])))
  (.run [zr 17 (.mv (zt 4)), zr 18 (.bin .add (zt 17) (zi 1)), za 4 (zt 18)]))
def rc42_1 : RC := (.seq (.seq (.run [zr 5 (.mv (zt 0)), zr 6 (.nck (zt 5)), zr 7 (.fa 6 (zt 6)), zr 8 (.ld (zt 7)), zr 9 (.bin .eql (zt 8) (zi 0)), zr 10 (.mv (zt 9)), zg 11 10 true (.mv (zt 0)), zg 12 10 true (.nck (zt 11)), zg 13 10 true (.fa 3 (zt 12)), zg 14 10 true (.ld (zt 13)), zg 15 10 true (.eq false .ptr (zt 14) (.const (.pointer none))), zr 16 (.pick (zt 10) (zt 15) (.const (.bool false)))])
  (.cond (zt 16)
  .skip
  (.exit 0)))
  rc42_0)
def rc42_2 : RC := (.seq (.run [zr 50 (.mv (zt 3)), za 2 (zt 50)])
  .ret)
def rc42 : RC := (.seq (.run [za 2 (.const (.slice none 0 0))])
  (.seq (.run [za 3 (.const (.slice none 0 0))])
  (.seq (.seq (.run [za 4 (zi 0)])
  (.block 0 (.loop rc42_1)))
  rc42_2)))
def ce42 : List (Nat × List Nat × List Nat) := [(5, [0, 1, 2, 3, 4, 5, 6, 7, 8, 9, 10, 11, 12, 13], [0, 1, 3, 7, 15, 31, 63, 7, 135, 391, 903, 1927, 4095, 8191]), (7, [0, 1, 2, 3, 4, 5, 6, 7, 8, 9, 10, 11, 12, 13, 14], [0, 0, 0, 4, 12, 28, 0, 64, 192, 448, 1020, 2044, 4094, 8191, 16383])]
def ro42 : List RO := [(.mv (zt 2))]
theorem ok42 : okFn Tryz.prog 42 51 ce42 = some (rc42, ro42) := by kernel_rfl
def rc43 : RC := (.run [zr 4 (.mv (zt 0)), zr 5 (.mv (zt 0)), zr 6 (.nck (zt 5)), zr 7 (.fa 0 (zt 6)), zr 8 (.ld (zt 7)), zr 9 (.mv (zt 1)), zc 10 14 [(zt 8), (zt 9)], zr 11 (.nck (zt 4)), zr 12 (.fa 1 (zt 11)), ze (.st 1 (zt 12) (zt 10))])
def ce43 : List (Nat × List Nat × List Nat) := []
def ro43 : List RO := []
theorem ok43 : okFn Tryz.prog 43 13 ce43 = some (rc43, ro43) := by kernel_rfl
def rc44_0 : RC := (.seq (.block 1 (.seq (.run [zr 27 (.mv (zt 25)), zr 28 (.ia 1 (zt 23) (zt 25)), zr 29 (.ld (zt 28)), za 7 (zt 27), za 8 (zt 29)])
  (.seq (.run [zr 30 (.mv (zt 0)), zr 31 (.nck (zt 30)), zr 32 (.fa 1 (zt 31)), zr 33 (.ld (zt 32)), zr 34 (.mv (zt 7)), zr 35 (.mv (zt 8)), zr 36 (.mv (zt 0)), zr 37 (.nck (zt 36)), zr 38 (.fa 1 (zt 37)), zr 39 (.ld (zt 38)), zr 40 (.mv (zt 7)), zr 41 (.ia 1 (zt 39) (zt 40)), zr 42 (.ld (zt 41)), zr 43 (.mv (zt 1)), ⟨(some 44), none, (.c (.fn 64 [(zt 35), (zt 42), (zt 43), (.const (.bool true))])), [(33, none, .ld (zt 32))]⟩, zr 45 (.ia 1 (zt 33) (zt 34)), ze (.st 1 (zt 45) (zt 44))])
  (.seq (.run [zr 46 (.mv (zt 6)), zr 47 (.bin .lss (zt 46) (zi 0)), zr 48 (.mv (zt 47)), zg 49 48 true (.mv (zt 8)), zg 50 48 true (.mv (zt 0)), zg 51 48 true (.nck (zt 50)), zg 52 48 true (.fa 1 (zt 51)), zg 53 48 true (.ld (zt 52)), zg 54 48 true (.mv (zt 7)), zg 55 48 true (.ia 1 (zt 53) (zt 54)), zg 56 48 true (.ld (zt 55)), ⟨(some 57), (some (48, true)), (.c (.fn 65 [(zt 49), (zt 56)])), []⟩, zr 58 (.pick (zt 48) (zt 57) (.const (.bool false)))])
  (.cond (zt 58)
  (.run [zr 59 (.mv (zt 7)), za 6 (zt 59)])
  .skip)))))
  (.run [zr 60 (.bin .add (zt 25) (zi 1)), zr 25 (.mv (zt 60))]))
def rc44_1 : RC := (.seq (.run [zr 26 (.bin .lss (zt 25) (zt 24))])
  (.seq (.cond (zt 26)
  .skip
  (.exit 0))
  rc44_0))
def rc44_2 : RC := (.seq (.run [zr 63 (.mv (zt 0)), zr 64 (.nck (zt 63)), zr 65 (.fa 3 (zt 64)), ze (.st 1 (zt 65) (.const (.bool true)))])
  (.seq (.run [zr 66 (.mv (zt 6)), za 4 (zt 66), za 5 (.const (.bool true))])
  .ret))
def rc44_3 : RC := (.seq (.seq (.run [zr 61 (.mv (zt 6)), zr 62 (.bin .lss (zt 61) (zi 0))])
  (.cond (zt 62)
  (.seq (.run [za 4 (zi 0), za 5 (.const (.bool false))])
  .ret)
  .skip))
  rc44_2)
def rc44_4 : RC := (.seq (.run [zr 13 (.mv (zt 0)), zr 14 (.nck (zt 13)), zr 15 (.fa 2 (zt 14)), zr 16 (.ld (zt 15)), zr 17 (.bin .add (zt 16) (zi 1)), zr 18 (.nck (zt 13)), zr 19 (.fa 2 (zt 18)), ze (.st 1 (zt 19) (zt 17))])
  (.seq (.run [za 6 (zi (-1))])
  (.seq (.seq (.run [zr 20 (.mv (zt 0)), zr 21 (.nck (zt 20)), zr 22 (.fa 0 (zt 21)), zr 23 (.ld (zt 22)), zr 24 (.lenl (zt 23)), zr 25 (.mv (zi 0))])
  (.block 0 (.loop rc44_1)))
  rc44_3)))
def rc44 : RC := (.seq (.run [za 4 (zi 0), za 5 (.const (.bool false))])
  (.seq (.seq (.run [zr 9 (.mv (zt 0)), zr 10 (.nck (zt 9)), zr 11 (.fa 3 (zt 10)), zr 12 (.ld (zt 11))])
  (.cond (zt 12)
  (.seq (.run [za 4 (zi 0), za 5 (.const (.bool false))])
  .ret)
  .skip))
  rc44_4))
def ce44 : List (Nat × List Nat × List Nat) := [(8, [0, 1, 2, 3, 4, 5, 6, 7, 8, 9, 10, 11, 12, 13, 14, 15, 16], [0, 1, 3, 7, 0, 0, 0, 64, 192, 448, 0, 1984, 4032, 0, 16352, 32767, 65535])]
def ro44 : List RO := [(.mv (zt 4)), (.mv (zt 5))]
theorem ok44 : okFn Tryz.prog 44 67 ce44 = some (rc44, ro44) := by kernel_rfl
def rc45_0 : RC := (.seq (.run [zr 38 (.ldn 6 (zt 7)), zc 39 67 [(zt 38)], za 9 (zt 39)])
  (.seq (.seq (.run [zr 40 (.mv (zt 9)), zc 41 68 [(zt 40)]])
  (.cond (zt 41)
  (.seq (.run [zr 42 (.mki 39 (zi 8)), za 2 (.const (.pointer none)), za 3 (zt 42)])
  .ret)
  .skip))
  (.run [zr 43 (.mv (zt 4)), zr 44 (.mv (zt 4)), zr 45 (.nck (zt 44)), zr 46 (.fa 0 (zt 45)), zr 47 (.ld (zt 46)), zr 48 (.mv (zt 9)), zf 49 (.bsl 141 1 1 [(.pointer none)] [(0, 1, (zt 48))]), zf 50 (.app 141 1 8 (zt 47) (zt 49)), zr 51 (.nck (zt 43)), zr 52 (.fa 0 (zt 51)), ze (.st 1 (zt 52) (zt 50))])))
def rc45_1 : RC := (.seq (.block 1 (.seq (.run [zr 28 (.ia 1 (zt 24) (zt 26)), zr 29 (.ld (zt 28)), za 6 (zt 29)])
  (.seq (.run [zr 31 (.mv (zt 6)), zc 32 66 [(zt 31)], zr 30 (.mv (zt 32)), zr 33 (.ext 0 (zt 30)), zr 34 (.ext 1 (zt 30)), zf 7 (.al [(.int .i64 0), (.int .u64 0), (.int .u64 0), (.int .u64 0), (.int .u64 0), (.slice none 0 0)] 76), ze (.st 6 (zt 7) (zt 33)), za 8 (zt 34)])
  (.seq (.seq (.run [zr 35 (.mv (zt 8)), zr 36 (.eq true (.iface []) (zt 35) (.const .nilIface))])
  (.cond (zt 36)
  (.seq (.run [zr 37 (.mv (zt 8)), za 2 (.const (.pointer none)), za 3 (zt 37)])
  .ret)
  .skip))
  rc45_0))))
  (.run [zr 53 (.bin .add (zt 26) (zi 1)), zr 26 (.mv (zt 53))]))
def rc45_2 : RC := (.seq (.run [zr 27 (.bin .lss (zt 26) (zt 25))])
  (.seq (.cond (zt 27)
  .skip
  (.exit 0))
  rc45_1))
def rc45_3 : RC := (.seq (.run [zr 54 (.mv (zt 4)), za 2 (zt 54), za 3 (.const .nilIface)])
  .ret)
def rc45_4 : RC := (.seq (.run [zr 19 (.mv (zt 0)), zr 20 (.lenl (zt 19)), zf 21 (.mks 142 24 (.slice none 0 0) (zt 20) (zt 20)), zr 22 (.bld [(.slice none 0 0), (.slice none 0 0), (.int .i64 0), (.bool false)] [(1, 1, (zt 21))]), zf 23 (.bx 140 (zt 22)), za 4 (zt 23)])
  (.seq (.seq (.run [zr 24 (.mv (zt 0)), zr 25 (.lenl (zt 24)), zr 26 (.mv (zi 0))])
  (.block 0 (.loop rc45_2)))
  rc45_3))
def rc45 : RC := (.seq (.run [za 2 (.const (.pointer none)), za 3 (.const .nilIface)])
  (.seq (.seq (.run [zr 10 (.mv (zt 0)), zr 11 (.lenl (zt 10)), zr 12 (.bin .eql (zt 11) (zi 0)), zr 13 (.mv (zt 12)), zg 14 13 false (.mv (zt 0)), zg 15 13 false (.lenl (zt 14)), zg 16 13 false (.bin .gtr (zt 15) (zi 8)), zr 17 (.pick (zt 13) (.const (.bool true)) (zt 16))])
  (.cond (zt 17)
  (.seq (.run [zr 18 (.mki 39 (zi 7)), za 2 (.const (.pointer none)), za 3 (zt 18)])
  .ret)
  .skip))
  rc45_4))
def ce45 : List (Nat × List Nat × List Nat) := []
def ro45 : List RO := [(.mv (zt 2)), (.mv (zt 3))]
theorem ok45 : okFn Tryz.prog 45 55 ce45 = some (rc45, ro45) := by kernel_rfl
def rc47 : RC := (.seq (.run [za 4 (.const .nilIface)])
  (.seq (.run [zr 5 (.mv (zt 0)), zr 6 (.mv (zt 1)), zr 7 (.bld [(.int .i64 0), (.int .i64 0)] [(0, 1, (zt 5)), (1, 1, (zt 6))]), zr 8 (.mki 92 (zt 7)), za 4 (zt 8)])
  .ret))
def ce47 : List (Nat × List Nat × List Nat) := []
def ro47 : List RO := [(.mv (zt 4))]
theorem ok47 : okFn Tryz.prog 47 9 ce47 = some (rc47, ro47) := by kernel_rfl
def rc48_0 : RC := (.seq (.run [zr 58 (.bld [(.int .i64 0), (.string ⟨#[]⟩), (.int .i64 0), (.int .i64 0)] []), ze (.st 4 (zt 2) (zt 58)), za 3 (zi 0)])
  .ret)
def rc48 : RC := (.seq (.run [zf 2 (.al [(.int .i64 0), (.string ⟨#[]⟩), (.int .i64 0), (.int .i64 0)] 87), za 3 (zi 0)])
  (.seq (.seq (.run [zr 12 (.mv (zt 0)), zr 13 (.ixs (zt 12) (zi 0)), za 4 (zt 13)])
  (.block 0 (.seq (.run [zr 15 (.mv (zt 4)), zc 16 72 [(zt 15)], za 14 (zt 16)])
  (.cond (zt 14)
  (.seq (.run [zr 17 (.mv (zt 0)), zc 18 73 [(zt 17)], za 5 (zt 18)])
  (.seq (.run [zr 19 (.mv (zt 0)), zr 20 (.mv (zt 5)), zr 21 (.sls (zt 19) none (some (zt 20))), zr 22 (.bld [(.int .i64 0), (.string ⟨#[]⟩), (.int .i64 0), (.int .i64 0)] [(0, 1, (zi 1)), (1, 1, (zt 21))]), zr 23 (.mv (zt 5)), ze (.st 4 (zt 2) (zt 22)), za 3 (zt 23)])
  .ret))
  (.seq (.run [zr 25 (.mv (zt 4)), zc 26 74 [(zt 25)], za 24 (zt 26)])
  (.cond (zt 24)
  (.seq (.run [zr 28 (.mv (zt 0)), zc 29 75 [(zt 28)], zr 27 (.mv (zt 29)), zr 30 (.ext 0 (zt 27)), zr 31 (.ext 1 (zt 27)), zr 32 (.ext 2 (zt 27)), za 6 (zt 30), za 7 (zt 31), za 8 (zt 32)])
  (.seq (.run [zr 33 (.mv (zt 0)), zr 34 (.mv (zt 6)), zr 35 (.sls (zt 33) none (some (zt 34))), zr 36 (.mv (zt 7)), zr 37 (.bld [(.int .i64 0), (.string ⟨#[]⟩), (.int .i64 0), (.int .i64 0)] [(0, 1, (zi 2)), (1, 1, (zt 35)), (2, 1, (zt 36))]), zr 38 (.mv (zt 6)), ze (.st 4 (zt 2) (zt 37)), za 3 (zt 38)])
  .ret))
  (.seq (.run [zr 40 (.mv (zt 4)), zr 41 (.bin .eql (zt 40) (.const (.int .u8 34))), za 39 (zt 41)])
  (.cond (zt 39)
  (.seq (.run [zr 43 (.mv (zt 0)), zc 44 76 [(zt 43)], zr 42 (.mv (zt 44)), zr 45 (.ext 0 (zt 42)), zr 46 (.ext 1 (zt 42)), zr 47 (.ext 2 (zt 42)), za 9 (zt 45), za 10 (zt 46), za 11 (zt 47)])
  (.seq (.run [zr 48 (.mv (zt 10)), zr 49 (.bld [(.int .i64 0), (.string ⟨#[]⟩), (.int .i64 0), (.int .i64 0)] [(0, 1, (zi 3)), (1, 1, (zt 48))]), zr 50 (.mv (zt 9)), ze (.st 4 (zt 2) (zt 49)), za 3 (zt 50)])
  .ret))
  (.seq (.run [zr 52 (.mv (zt 4)), zc 53 77 [(.const (.string ⟨#[58, 59, 44, 123, 125]⟩)), (zt 52)], zr 54 (.bin .geq (zt 53) (zi 0)), za 51 (zt 54)])
  (.cond (zt 51)
  (.seq (.run [zr 55 (.mv (zt 0)), zr 56 (.sls (zt 55) none (some (zi 1))), zr 57 (.bld [(.int .i64 0), (.string ⟨#[]⟩), (.int .i64 0), (.int .i64 0)] [(0, 1, (zi 4)), (1, 1, (zt 56))]), ze (.st 4 (zt 2) (zt 57)), za 3 (zi 1)])
  .ret)
  .skip))))))))))
  rc48_0))
def ce48 : List (Nat × List Nat × List Nat) := []
def ro48 : List RO := [(.ldn 4 (zt 2)), (.mv (zt 3))]
theorem ok48 : okFn Tryz.prog 48 59 ce48 = some (rc48, ro48) := by kernel_rfl
def rc49_0 : RC := (.seq (.run [zr 42 (.mv (zt 0)), zr 43 (.nck (zt 42)), zr 44 (.fa 1 (zt 43)), zr 45 (.ld (zt 44)), zr 46 (.bin .add (zt 45) (zi 1)), zr 47 (.nck (zt 42)), zr 48 (.fa 1 (zt 47)), ze (.st 1 (zt 48) (zt 46))])
  (.seq (.run [zr 49 (.ldn 4 (zt 7)), ze (.st 4 (zt 6) (zt 49))])
  .ret))
def rc49_1 : RC := (.seq (.seq (.run [zr 36 (.mv (zt 0)), zr 37 (.nck (zt 36)), zr 38 (.fa 2 (zt 37)), zr 39 (.ld (zt 38)), zr 40 (.eq true (.iface []) (zt 39) (.const .nilIface))])
  (.cond (zt 40)
  (.seq (.run [zr 41 (.bld [(.int .i64 0), (.string ⟨#[]⟩), (.int .i64 0), (.int .i64 0)] []), ze (.st 4 (zt 6) (zt 41))])
  .ret)
  .skip))
  rc49_0)
def rc49 : RC := (.seq (.run [zf 6 (.al [(.int .i64 0), (.string ⟨#[]⟩), (.int .i64 0), (.int .i64 0)] 87)])
  (.seq (.run [zr 8 (.mv (zt 0)), zr 9 (.nck (zt 8)), zr 10 (.fa 0 (zt 9)), zr 11 (.ld (zt 10)), zr 12 (.mv (zt 0)), zr 13 (.nck (zt 12)), zr 14 (.fa 1 (zt 13)), zr 15 (.ld (zt 14)), zr 16 (.ia 4 (zt 11) (zt 15)), zr 17 (.ldn 4 (zt 16)), ⟨(some 7), none, (.e (.al [(.int .i64 0), (.string ⟨#[]⟩), (.int .i64 0), (.int .i64 0)] 87)), [(11, none, .ld (zt 10)), (15, none, .ld (zt 14)), (17, none, .ldn 4 (zt 16))]⟩, ze (.st 4 (zt 7) (zt 17))])
  (.seq (.seq (.run [zr 18 (.mv (zt 0)), zr 19 (.nck (zt 18)), zr 20 (.fa 2 (zt 19)), zr 21 (.ld (zt 20)), zr 22 (.eq false (.iface []) (zt 21) (.const .nilIface)), zr 23 (.mv (zt 22)), zg 24 23 true (.mv (zt 0)), zg 25 23 true (.mv (zt 1)), zg 26 23 true (.mv (zt 2)), ⟨(some 27), (some (23, true)), (.c (.fn 50 [(zt 24), (zt 25), (zt 26)])), []⟩, zg 28 23 true (.not (zt 27)), zr 29 (.pick (zt 23) (zt 28) (.const (.bool false)))])
  (.cond (zt 29)
  (.run [zr 30 (.mv (zt 0)), zr 31 (.fa 3 (zt 7)), zr 32 (.ld (zt 31)), zc 33 47 [(zi 2), (zt 32)], zr 34 (.nck (zt 30)), zr 35 (.fa 2 (zt 34)), ze (.st 1 (zt 35) (zt 33))])
  .skip))
  rc49_1)))
def ce49 : List (Nat × List Nat × List Nat) := [(1, [0, 1, 2, 3, 4, 5, 6, 7, 8, 9, 10, 11], [0, 1, 3, 7, 0, 16, 48, 112, 255, 511, 0, 2047])]
def ro49 : List RO := [(.ldn 4 (zt 6))]
theorem ok49 : okFn Tryz.prog 49 50 ce49 = some (rc49, ro49) := by kernel_rfl
def rc50 : RC := (.seq (.run [za 6 (.const (.bool false))])
  (.seq (.run [zr 8 (.mv (zt 0)), zr 9 (.nck (zt 8)), zr 10 (.fa 0 (zt 9)), zr 11 (.ld (zt 10)), zr 12 (.mv (zt 0)), zr 13 (.nck (zt 12)), zr 14 (.fa 1 (zt 13)), zr 15 (.ld (zt 14)), zr 16 (.ia 4 (zt 11) (zt 15)), zr 17 (.ldn 4 (zt 16)), ⟨(some 7), none, (.e (.al [(.int .i64 0), (.string ⟨#[]⟩), (.int .i64 0), (.int .i64 0)] 87)), [(11, none, .ld (zt 10)), (15, none, .ld (zt 14)), (17, none, .ldn 4 (zt 16))]⟩, ze (.st 4 (zt 7) (zt 17))])
  (.seq (.run [zr 18 (.mv (zt 0)), zr 19 (.nck (zt 18)), zr 20 (.fa 2 (zt 19)), zr 21 (.ld (zt 20)), zr 22 (.eq false (.iface []) (zt 21) (.const .nilIface)), zr 23 (.mv (zt 22)), zg 24 23 true (.fa 0 (zt 7)), zg 25 23 true (.ld (zt 24)), zg 26 23 true (.mv (zt 1)), zg 27 23 true (.bin .eql (zt 25) (zt 26)), zr 28 (.pick (zt 23) (zt 27) (.const (.bool false))), zr 29 (.mv (zt 28)), zg 30 29 true (.mv (zt 2)), zg 31 29 true (.bin .eql (zt 30) (.const (.string ⟨#[]⟩))), zg 32 29 true (.mv (zt 31)), zg 33 32 false (.fa 1 (zt 7)), zg 34 32 false (.ld (zt 33)), zg 35 32 false (.mv (zt 2)), zg 36 32 false (.bin .eql (zt 34) (zt 35)), zg 37 29 true (.pick (zt 32) (.const (.bool true)) (zt 36)), zr 38 (.pick (zt 29) (zt 37) (.const (.bool false))), za 6 (zt 38)])
  .ret)))
def ce50 : List (Nat × List Nat × List Nat) := [(1, [0, 1, 2, 3, 4, 5, 6, 7, 8, 9, 10, 11], [0, 1, 3, 7, 0, 16, 48, 112, 255, 511, 0, 2047])]
def ro50 : List RO := [(.mv (zt 6))]
theorem ok50 : okFn Tryz.prog 50 39 ce50 = some (rc50, ro50) := by kernel_rfl
def rc51 : RC := (.seq (.run [za 0 (.const (.slice none 0 0))])
  (.seq (.run [zf 1 (.bsl 9 1 6 [(.string ⟨#[]⟩), (.string ⟨#[]⟩), (.string ⟨#[]⟩), (.string ⟨#[]⟩), (.string ⟨#[]⟩), (.string ⟨#[]⟩)] [(0, 1, (.const (.string ⟨#[115, 101, 110, 100]⟩))), (1, 1, (.const (.string ⟨#[101, 120, 112, 101, 99, 116]⟩))), (2, 1, (.const (.string ⟨#[103, 111]⟩))), (3, 1, (.const (.string ⟨#[116, 114, 121]⟩))), (4, 1, (.const (.string ⟨#[100, 111, 110, 101]⟩))), (5, 1, (.const (.string ⟨#[102, 97, 105, 108]⟩)))]), za 0 (zt 1)])
  .ret))
def ce51 : List (Nat × List Nat × List Nat) := []
def ro51 : List RO := [(.mv (zt 0))]
theorem ok51 : okFn Tryz.prog 51 2 ce51 = some (rc51, ro51) := by kernel_rfl
def rc52_0 : RC := (.block 1 (.seq (.run [zr 14 (.mv (zt 0)), zc 15 49 [(zt 14), (zi 3), (.const (.string ⟨#[]⟩))], zr 16 (.fld 1 0 (zt 15)), zr 17 (.bld [(.string ⟨#[]⟩), (.string ⟨#[]⟩)] [(0, 1, (zt 16))]), zf 5 (.al [(.string ⟨#[]⟩), (.string ⟨#[]⟩)] 49), ze (.st 2 (zt 5) (zt 17))])
  (.seq (.run [zr 18 (.mv (zt 0)), zc 19 54 [(zt 18)], zr 20 (.fa 1 (zt 5)), ze (.st 1 (zt 20) (zt 19))])
  (.seq (.run [zr 21 (.mv (zt 3)), zr 22 (.ldn 2 (zt 5)), zf 23 (.bsl 49 2 1 [(.string ⟨#[]⟩), (.string ⟨#[]⟩)] [(0, 2, (zt 22))]), zf 24 (.app 49 2 32 (zt 21) (zt 23)), za 3 (zt 24)])
  (.seq (.run [zr 25 (.mv (zt 0)), zc 26 50 [(zt 25), (zi 4), (.const (.string ⟨#[44]⟩))], za 4 (zt 26)])
  (.seq (.run [zr 27 (.mv (zt 4))])
  (.cond (zt 27)
  (.run [zr 28 (.mv (zt 0)), zr 29 (.nck (zt 28)), zr 30 (.fa 1 (zt 29)), zr 31 (.ld (zt 30)), zr 32 (.bin .add (zt 31) (zi 1)), zr 33 (.nck (zt 28)), zr 34 (.fa 1 (zt 33)), ze (.st 1 (zt 34) (zt 32))])
  .skip)))))))
def rc52_1 : RC := (.seq (.seq (.run [zr 6 (.mv (zt 4)), zr 7 (.mv (zt 6)), zg 8 7 true (.mv (zt 0)), zg 9 7 true (.nck (zt 8)), zg 10 7 true (.fa 2 (zt 9)), zg 11 7 true (.ld (zt 10)), zg 12 7 true (.eq false (.iface []) (zt 11) (.const .nilIface)), zr 13 (.pick (zt 7) (zt 12) (.const (.bool false)))])
  (.cond (zt 13)
  .skip
  (.exit 0)))
  rc52_0)
def rc52_2 : RC := (.seq (.run [zr 35 (.mv (zt 3)), za 2 (zt 35)])
  .ret)
def rc52 : RC := (.seq (.run [za 2 (.const (.slice none 0 0))])
  (.seq (.run [za 3 (.const (.slice none 0 0))])
  (.seq (.seq (.run [za 4 (.const (.bool true))])
  (.block 0 (.loop rc52_1)))
  rc52_2)))
def ce52 : List (Nat × List Nat × List Nat) := []
def ro52 : List RO := [(.mv (zt 2))]
theorem ok52 : okFn Tryz.prog 52 36 ce52 = some (rc52, ro52) := by kernel_rfl
def rc53_0 : RC := (.seq (.run [zr 30 (.fa 2 (zt 5)), zr 31 (.ld (zt 30)), za 4 (zt 31)])
  .ret)
def rc53 : RC := (.seq (.run [za 4 (zi 0)])
  (.seq (.run [zr 6 (.mv (zt 0)), zc 7 49 [(zt 6), (zi 2), (.const (.string ⟨#[]⟩))], zf 5 (.al [(.int .i64 0), (.string ⟨#[]⟩), (.int .i64 0), (.int .i64 0)] 87), ze (.st 4 (zt 5) (zt 7))])
  (.seq (.seq (.run [zr 8 (.mv (zt 0)), zr 9 (.nck (zt 8)), zr 10 (.fa 2 (zt 9)), zr 11 (.ld (zt 10)), zr 12 (.eq false (.iface []) (zt 11) (.const .nilIface)), zr 13 (.mv (zt 12)), zg 14 13 true (.fa 2 (zt 5)), zg 15 13 true (.ld (zt 14)), zg 16 13 true (.bin .lss (zt 15) (zi 1)), zg 17 13 true (.mv (zt 16)), zg 18 17 false (.fa 2 (zt 5)), zg 19 17 false (.ld (zt 18)), zg 20 17 false (.mv (zt 1)), zg 21 17 false (.bin .gtr (zt 19) (zt 20)), zg 22 13 true (.pick (zt 17) (.const (.bool true)) (zt 21)), zr 23 (.pick (zt 13) (zt 22) (.const (.bool false)))])
  (.cond (zt 23)
  (.run [zr 24 (.mv (zt 0)), zr 25 (.fa 3 (zt 5)), zr 26 (.ld (zt 25)), zc 27 47 [(zi 5), (zt 26)], zr 28 (.nck (zt 24)), zr 29 (.fa 2 (zt 28)), ze (.st 1 (zt 29) (zt 27))])
  .skip))
  rc53_0)))
def ce53 : List (Nat × List Nat × List Nat) := []
def ro53 : List RO := [(.mv (zt 4))]
theorem ok53 : okFn Tryz.prog 53 32 ce53 = some (rc53, ro53) := by kernel_rfl
def rc54 : RC := (.seq (.run [za 2 (.const (.string ⟨#[]⟩))])
  (.seq (.run [zr 3 (.mv (zt 0)), zc 4 49 [(zt 3), (zi 1), (.const (.string ⟨#[103, 111]⟩))]])
  (.seq (.run [zr 5 (.mv (zt 0)), zc 6 49 [(zt 5), (zi 1), (.const (.string ⟨#[]⟩))], zr 7 (.fld 1 0 (zt 6)), za 2 (zt 7)])
  .ret)))
def ce54 : List (Nat × List Nat × List Nat) := []
def ro54 : List RO := [(.mv (zt 2))]
theorem ok54 : okFn Tryz.prog 54 8 ce54 = some (rc54, ro54) := by kernel_rfl
def rc58_0 : RC := (.seq (.run [zr 56 (.mv (zt 14)), zr 57 (.mv (zt 1)), zr 58 (.ldn 3 (zt 6)), zr 59 (.mv (zt 3)), zc 60 58 [(zt 56), (zt 57), (zt 58), (zt 59)]])
  (.cond (zt 60)
  (.seq (.run [za 8 (.const (.bool true))])
  .ret)
  .skip))
def rc58_1 : RC := (.seq (.block 4 (.seq (.run [zr 52 (.ia 1 (zt 48) (zt 50)), zr 53 (.ld (zt 52)), za 14 (zt 53)])
  (.seq (.seq (.run [zr 54 (.mv (zt 14)), zr 55 (.eq false (.iface []) (zt 54) (.const .nilIface))])
  (.cond (zt 55)
  (.exit 4)
  .skip))
  rc58_0)))
  (.run [zr 61 (.bin .add (zt 50) (zi 1)), zr 50 (.mv (zt 61))]))
def rc58_2 : RC := (.seq (.run [zr 51 (.bin .lss (zt 50) (zt 49))])
  (.seq (.cond (zt 51)
  .skip
  (.exit 3))
  rc58_1))
def rc58_3 : RC := (.seq (.run [za 8 (.const (.bool false))])
  .ret)
def rc58_4 : RC := (.seq (.run [zr 36 (.mv (zt 0))])
  (.block 2 (.seq (.run [⟨(some 37), none, .bad, []⟩, zr 38 (.ext 1 (zt 37)), zr 39 (.ext 0 (zt 37))])
  (.cond (zt 38)
  (.seq (.run [za 11 (zt 39)])
  (.seq (.run [zr 40 (.mv (zt 11)), ⟨(some 41), none, (.c (.inv (zt 40) "Unwrap" [])), []⟩, za 0 (zt 41)])
  (.seq (.run [zr 42 (.mv (zt 0)), zr 43 (.eq false (.iface []) (zt 42) (.const .nilIface))])
  (.cond (zt 43)
  (.seq (.run [za 8 (.const (.bool false))])
  .ret)
  .skip))))
  (.seq (.run [⟨(some 44), none, .bad, []⟩, zr 45 (.ext 1 (zt 44)), zr 46 (.ext 0 (zt 44))])
  (.cond (zt 45)
  (.seq (.run [za 12 (zt 46)])
  (.seq (.seq (.run [zr 47 (.mv (zt 12)), ⟨(some 48), none, (.c (.inv (zt 47) "Unwrap" [])), []⟩, zr 49 (.lenl (zt 48)), zr 50 (.mv (zi 0))])
  (.block 3 (.loop rc58_2)))
  rc58_3))
  (.seq (.run [za 15 (zt 36)])
  (.seq (.run [za 8 (.const (.bool false))])
  .ret))))))))
def rc58_5 : RC := (.seq (.seq (.run [zr 26 (.mv (zt 0)), ⟨(some 27), none, .bad, []⟩, zr 25 (.mv (zt 27)), zr 28 (.ext 0 (zt 25)), zr 29 (.ext 1 (zt 25)), za 9 (zt 28), za 10 (zt 29)])
  (.seq (.run [zr 30 (.mv (zt 10)), zr 31 (.mv (zt 30)), zg 32 31 true (.mv (zt 9)), zg 33 31 true (.mv (zt 1)), ⟨(some 34), (some (31, true)), (.c (.inv (zt 32) "As" [(zt 33)])), []⟩, zr 35 (.pick (zt 31) (zt 34) (.const (.bool false)))])
  (.cond (zt 35)
  (.seq (.run [za 8 (.const (.bool true))])
  .ret)
  .skip)))
  rc58_4)
def rc58_6 : RC := (.block 1 (.seq (.seq (.run [zr 16 (.mv (zt 0)), zc 17 78 [(zt 16)], zr 18 (.mv (zt 3)), ⟨(some 19), none, (.c (.inv (zt 17) "AssignableTo" [(zt 18)])), []⟩])
  (.cond (zt 19)
  (.seq (.run [zr 20 (.ldn 3 (zt 6)), zc 21 79 [(zt 20)], zr 22 (.mv (zt 0)), zc 23 55 [(zt 22)], zc 24 80 [(zt 21), (zt 23)]])
  (.seq (.run [za 8 (.const (.bool true))])
  .ret))
  .skip))
  rc58_5))
def rc58 : RC := (.seq (.run [zf 6 (.bx 124 (zt 2)), za 8 (.const (.bool false))])
  (.block 0 (.loop rc58_6)))
def ce58 : List (Nat × List Nat × List Nat) := []
def ro58 : List RO := [(.mv (zt 8))]
theorem ok58 : okFn Tryz.prog 58 62 ce58 = some (rc58, ro58) := by kernel_rfl
def rc59 : RC := (.seq (.run [zr 2 (.mv (zt 0)), zr 3 (.nck (zt 2)), zr 4 (.fa 0 (zt 3)), zr 5 (.ld (zt 4)), zr 6 (.eq false .ptr (zt 5) (.const (.pointer none)))])
  (.cond (zt 6)
  (.run [zr 7 (.mv (zt 0)), zr 8 (.mv (zt 0)), zr 9 (.cvp (zt 8)), zc 10 81 [(zt 9)], zr 11 (.cvu 96 2 (zt 10)), zr 12 (.nck (zt 7)), zr 13 (.fa 0 (zt 12)), ze (.st 1 (zt 13) (zt 11))])
  (.seq (.run [zr 14 (.mv (zt 0)), zr 15 (.nck (zt 14)), zr 16 (.fa 0 (zt 15)), zr 17 (.ld (zt 16)), zr 18 (.mv (zt 0)), zr 19 (.eq true .ptr (zt 17) (zt 18))])
  (.cond (zt 19)
  .stop
  .skip))))
def ce59 : List (Nat × List Nat × List Nat) := []
def ro59 : List RO := []
theorem ok59 : okFn Tryz.prog 59 20 ce59 = some (rc59, ro59) := by kernel_rfl
def rc61 : RC := (.seq (.run [za 2 (.const (.string ⟨#[]⟩))])
  (.seq (.run [zr 3 (.mv (zt 0)), zc 4 83 [(zt 3)], za 2 (zt 4)])
  .ret))
def ce61 : List (Nat × List Nat × List Nat) := []
def ro61 : List RO := [(.mv (zt 2))]
theorem ok61 : okFn Tryz.prog 61 5 ce61 = some (rc61, ro61) := by kernel_rfl
def rc62 : RC := (.seq (.run [za 4 (.const .nilIface)])
  (.seq (.run [zr 5 (.mv (zt 0)), zc 6 59 [(zt 5)]])
  (.seq (.run [zr 7 (.mv (zt 0)), zr 8 (.mv (zt 0)), zr 9 (.nck (zt 8)), zr 10 (.fa 1 (zt 9)), zr 11 (.ld (zt 10)), zr 12 (.mv (zt 1)), zf 13 (.bsl 5 1 1 [(.int .u8 0)] [(0, 1, (zt 12))]), zf 14 (.app 5 1 1 (zt 11) (zt 13)), zr 15 (.nck (zt 7)), zr 16 (.fa 1 (zt 15)), ze (.st 1 (zt 16) (zt 14))])
  (.seq (.run [za 4 (.const .nilIface)])
  .ret))))
def ce62 : List (Nat × List Nat × List Nat) := []
def ro62 : List RO := [(.mv (zt 4))]
theorem ok62 : okFn Tryz.prog 62 17 ce62 = some (rc62, ro62) := by kernel_rfl
def rc63_0 : RC := (.seq (.block 2 (.seq (.run [zr 32 (.ia 2 (zt 28) (zt 30)), zr 33 (.ldn 2 (zt 32)), zf 7 (.al [(.string ⟨#[]⟩), (.string ⟨#[]⟩)] 49), ze (.st 2 (zt 7) (zt 33))])
  (.run [zr 34 (.mv (zt 5)), zr 35 (.fa 0 (zt 7)), zr 36 (.ld (zt 35)), zf 37 (.bsl 9 1 1 [(.string ⟨#[]⟩)] [(0, 1, (zt 36))]), zf 38 (.app 9 1 16 (zt 34) (zt 37)), za 5 (zt 38)])))
  (.run [zr 39 (.bin .add (zt 30) (zi 1)), zr 30 (.mv (zt 39))]))
def rc63_1 : RC := (.seq (.run [zr 31 (.bin .lss (zt 30) (zt 29))])
  (.seq (.cond (zt 31)
  .skip
  (.exit 1))
  rc63_0))
def rc63_2 : RC := (.seq (.run [zr 41 (.mv (zt 0)), zr 42 (.mv (zt 5)), zc 43 45 [(zt 42)], zr 40 (.mv (zt 43)), zr 44 (.ext 0 (zt 40)), zr 45 (.ext 1 (zt 40)), zr 46 (.nck (zt 41)), zr 47 (.fa 3 (zt 46)), ze (.st 1 (zt 47) (zt 44))])
  (.run [zr 48 (.mv (zt 0)), zr 49 (.fa 4 (zt 3)), zr 50 (.ld (zt 49)), zr 51 (.mx (zi 1) (zt 50)), zr 52 (.nck (zt 48)), zr 53 (.fa 4 (zt 52)), ze (.st 1 (zt 53) (zt 51))]))
def rc63_3 : RC := (.seq (.run [za 4 (.const (.slice none 0 0))])
  .ret)
def rc63 : RC := (.seq (.run [zf 3 (.bx 29 (zt 1)), za 4 (.const (.slice none 0 0))])
  (.seq (.seq (.run [zr 8 (.fa 1 (zt 3)), zr 9 (.ld (zt 8))])
  (.block 0 (.seq (.run [zr 14 (.bin .eql (zt 9) (zi 0)), za 13 (zt 14)])
  (.cond (zt 13)
  (.seq (.run [zr 15 (.mv (zt 0)), zr 16 (.nck (zt 15)), zr 17 (.fa 1 (zt 16)), zr 18 (.ld (zt 17)), zr 19 (.bin .add (zt 18) (zi 1)), zr 20 (.nck (zt 15)), zr 21 (.fa 1 (zt 20)), ze (.st 1 (zt 21) (zt 19))])
  (.seq (.run [zr 22 (.fa 2 (zt 3)), zr 23 (.ld (zt 22)), zf 24 (.s2b 5 (zt 23)), za 4 (zt 24)])
  .ret))
  (.seq (.run [zr 26 (.bin .eql (zt 9) (zi 1)), za 25 (zt 26)])
  (.cond (zt 25)
  (.seq (.run [za 5 (.const (.slice none 0 0))])
  (.seq (.seq (.run [zr 27 (.fa 3 (zt 3)), zr 28 (.ld (zt 27)), zr 29 (.lenl (zt 28)), zr 30 (.mv (zi 0))])
  (.block 1 (.loop rc63_1)))
  rc63_2))
  (.seq (.run [zr 55 (.bin .eql (zt 9) (zi 2)), za 54 (zt 55)])
  (.cond (zt 54)
  (.run [zr 56 (.mv (zt 0)), zr 57 (.fa 5 (zt 3)), zr 58 (.ld (zt 57)), zc 59 43 [(zt 56), (zt 58)]])
  (.seq (.run [zr 61 (.bin .eql (zt 9) (zi 3)), za 60 (zt 61)])
  (.cond (zt 60)
  (.seq (.run [zr 62 (.mv (zt 0)), zr 63 (.nck (zt 62)), zr 64 (.fa 2 (zt 63)), zr 65 (.ld (zt 64)), zr 66 (.mv (zt 0)), zr 67 (.nck (zt 66)), zr 68 (.fa 1 (zt 67)), zr 69 (.ld (zt 68)), zr 70 (.lku 0 false (.int .i64 0) (zt 65) (zt 69)), zr 71 (.bin .add (zt 70) (zi 1)), ze (.mup 0 (zt 65) (zt 69) (zt 71))])
  (.seq (.run [zr 72 (.mv (zt 0)), zr 73 (.nck (zt 72)), zr 74 (.fa 2 (zt 73)), zr 75 (.ld (zt 74)), zr 76 (.mv (zt 0)), zr 77 (.nck (zt 76)), zr 78 (.fa 1 (zt 77)), zr 79 (.ld (zt 78)), zr 80 (.lku 0 false (.int .i64 0) (zt 75) (zt 79)), zr 81 (.fa 4 (zt 3)), zr 82 (.ld (zt 81)), zr 83 (.bin .leq (zt 80) (zt 82))])
  (.cond (zt 83)
  (.run [zr 84 (.mv (zt 0)), zr 85 (.fa 5 (zt 3)), zr 86 (.ld (zt 85)), zc 87 43 [(zt 84), (zt 86)]])
  (.seq (.run [zr 88 (.mv (zt 0)), zr 89 (.nck (zt 88)), zr 90 (.fa 2 (zt 89)), zr 91 (.ld (zt 90)), zr 92 (.mv (zt 0)), zr 93 (.nck (zt 92)), zr 94 (.fa 1 (zt 93)), zr 95 (.ld (zt 94)), ze (.mup 0 (zt 91) (zt 95) (zi 0))])
  (.run [zr 96 (.mv (zt 0)), zr 97 (.nck (zt 96)), zr 98 (.fa 1 (zt 97)), zr 99 (.ld (zt 98)), zr 100 (.bin .add (zt 99) (zi 1)), zr 101 (.nck (zt 96)), zr 102 (.fa 1 (zt 101)), ze (.st 1 (zt 102) (zt 100))])))))
  (.seq (.run [zr 104 (.bin .eql (zt 9) (zi 4)), za 103 (zt 104)])
  (.cond (zt 103)
  (.run [zr 105 (.mv (zt 0)), zr 106 (.nck (zt 105)), zr 107 (.fa 6 (zt 106)), ze (.st 1 (zt 107) (zi 1))])
  (.run [zr 10 (.mv (zt 0)), zr 11 (.nck (zt 10)), zr 12 (.fa 6 (zt 11)), ze (.st 1 (zt 12) (zi 2))])))))))))))))
  rc63_3))
def ce63 : List (Nat × List Nat × List Nat) := [(18, [0, 1, 2, 3, 4, 5, 6, 7, 8, 9, 10], [0, 1, 3, 7, 0, 16, 48, 112, 255, 511, 1023]), (19, [0, 1, 2, 3, 4, 5, 6, 7, 8, 9, 10, 11], [0, 1, 3, 7, 0, 16, 48, 112, 255, 0, 512, 2047]), (21, [0, 1, 2, 3, 4, 5, 6, 7, 8], [0, 1, 3, 7, 0, 16, 48, 112, 255])]
def ro63 : List RO := [(.mv (zt 4))]
theorem ok63 : okFn Tryz.prog 63 108 ce63 = some (rc63, ro63) := by kernel_rfl
def rc64_0 : RC := (.seq (.block 3 (.seq (.run [zr 48 (.mv (zt 46)), za 13 (zt 48)])
  (.run [zr 49 (.mv (zt 12)), zr 50 (.mv (zt 49)), zg 51 50 false (.mv (zt 13)), zg 52 50 false (.mv (zt 0)), zg 53 50 false (.nck (zt 52)), zg 54 50 false (.fa 1 (zt 53)), zg 55 50 false (.ld (zt 54)), zg 56 50 false (.lenl (zt 55)), zg 57 50 false (.bin .lss (zt 51) (zt 56)), zg 58 50 false (.mv (zt 57)), zg 59 58 true (.mv (zt 1)), zg 60 58 true (.mv (zt 13)), zg 61 58 true (.ia 1 (zt 59) (zt 60)), zg 62 58 true (.ld (zt 61)), zg 63 50 false (.pick (zt 58) (zt 62) (.const (.bool false))), zg 64 50 false (.mv (zt 63)), zg 65 64 true (.mv (zt 0)), zg 66 64 true (.nck (zt 65)), zg 67 64 true (.fa 1 (zt 66)), zg 68 64 true (.ld (zt 67)), zg 69 64 true (.mv (zt 13)), zg 70 64 true (.ia 1 (zt 68) (zt 69)), zg 71 64 true (.ld (zt 70)), zg 72 64 true (.mv (zt 10)), zg 73 64 true (.ia 1 (zt 71) (zt 72)), zg 74 64 true (.ld (zt 73)), zg 75 50 false (.pick (zt 64) (zt 74) (.const (.bool false))), zr 76 (.pick (zt 50) (.const (.bool true)) (zt 75)), za 12 (zt 76)])))
  (.run [zr 77 (.bin .add (zt 46) (zi 1)), zr 46 (.mv (zt 77))]))
def rc64_1 : RC := (.seq (.run [zr 47 (.bin .lss (zt 46) (zt 45))])
  (.seq (.cond (zt 47)
  .skip
  (.exit 2))
  rc64_0))
def rc64_2 : RC := (.seq (.run [zr 34 (.mv (zt 3)), zr 35 (.mv (zt 34)), zg 36 35 true (.mv (zt 0)), zg 37 35 true (.nck (zt 36)), zg 38 35 true (.fa 2 (zt 37)), zg 39 35 true (.ld (zt 38)), zg 40 35 true (.mv (zt 10)), zg 41 35 true (.ia 1 (zt 39) (zt 40)), zg 42 35 true (.ld (zt 41)), zr 43 (.pick (zt 35) (zt 42) (.const (.bool false))), za 12 (zt 43)])
  (.seq (.seq (.run [zr 44 (.mv (zt 1)), zr 45 (.lenl (zt 44)), zr 46 (.mv (zi 0))])
  (.block 2 (.loop rc64_1)))
  (.run [zr 78 (.mv (zt 9)), zr 79 (.mv (zt 10)), zr 80 (.mv (zt 12)), zr 81 (.ia 1 (zt 78) (zt 79)), ze (.st 1 (zt 81) (zt 80))])))
def rc64_3 : RC := (.seq (.block 1 (.seq (.run [zr 27 (.mv (zt 25)), zr 28 (.ia 4 (zt 23) (zt 25)), zr 29 (.ldn 4 (zt 28)), zf 11 (.al [(.int .u64 0), (.int .u64 0), (.int .u64 0), (.int .u64 0)] 73), za 10 (zt 27), ze (.st 4 (zt 11) (zt 29))])
  (.seq (.seq (.run [zr 30 (.ldn 4 (zt 11)), zr 31 (.mv (zt 2)), zc 32 84 [(zt 30), (zt 31)], zr 33 (.not (zt 32))])
  (.cond (zt 33)
  (.exit 1)
  .skip))
  rc64_2)))
  (.run [zr 82 (.bin .add (zt 25) (zi 1)), zr 25 (.mv (zt 82))]))
def rc64_4 : RC := (.seq (.run [zr 26 (.bin .lss (zt 25) (zt 24))])
  (.seq (.cond (zt 26)
  .skip
  (.exit 0))
  rc64_3))
def rc64_5 : RC := (.seq (.run [zr 83 (.mv (zt 9)), za 8 (zt 83)])
  .ret)
def rc64 : RC := (.seq (.run [za 8 (.const (.slice none 0 0))])
  (.seq (.run [zr 14 (.mv (zt 0)), zr 15 (.nck (zt 14)), zr 16 (.fa 0 (zt 15)), zr 17 (.ld (zt 16)), zr 18 (.lenl (zt 17)), zf 19 (.mks 4 1 (.bool false) (zt 18) (zt 18)), za 9 (zt 19)])
  (.seq (.seq (.run [zr 20 (.mv (zt 0)), zr 21 (.nck (zt 20)), zr 22 (.fa 0 (zt 21)), zr 23 (.ld (zt 22)), zr 24 (.lenl (zt 23)), zr 25 (.mv (zi 0))])
  (.block 0 (.loop rc64_4)))
  rc64_5)))
def ce64 : List (Nat × List Nat × List Nat) := []
def ro64 : List RO := [(.mv (zt 8))]
theorem ok64 : okFn Tryz.prog 64 84 ce64 = some (rc64, ro64) := by kernel_rfl
def rc65_0 : RC := (.seq (.block 1 (.seq (.run [zr 11 (.mv (zt 9)), zr 12 (.ia 1 (zt 7) (zt 9)), zr 13 (.ld (zt 12)), za 5 (zt 11), za 6 (zt 13)])
  (.seq (.run [zr 14 (.mv (zt 6)), zr 15 (.mv (zt 14)), zg 16 15 true (.mv (zt 5)), zg 17 15 true (.mv (zt 0)), zg 18 15 true (.nck (zt 17)), zg 19 15 true (.fa 3 (zt 18)), zg 20 15 true (.ld (zt 19)), zg 21 15 true (.lenl (zt 20)), zg 22 15 true (.bin .lss (zt 16) (zt 21)), zr 23 (.pick (zt 15) (zt 22) (.const (.bool false))), zr 24 (.mv (zt 23)), zg 25 24 true (.mv (zt 0)), zg 26 24 true (.nck (zt 25)), zg 27 24 true (.fa 3 (zt 26)), zg 28 24 true (.ld (zt 27)), zg 29 24 true (.mv (zt 5)), zg 30 24 true (.ia 1 (zt 28) (zt 29)), zg 31 24 true (.ld (zt 30)), zr 32 (.pick (zt 24) (zt 31) (.const (.bool false)))])
  (.cond (zt 32)
  (.seq (.run [za 4 (.const (.bool true))])
  .ret)
  .skip))))
  (.run [zr 33 (.bin .add (zt 9) (zi 1)), zr 9 (.mv (zt 33))]))
def rc65_1 : RC := (.seq (.run [zr 10 (.bin .lss (zt 9) (zt 8))])
  (.seq (.cond (zt 10)
  .skip
  (.exit 0))
  rc65_0))
def rc65_2 : RC := (.seq (.run [za 4 (.const (.bool false))])
  .ret)
def rc65 : RC := (.seq (.run [za 4 (.const (.bool false))])
  (.seq (.seq (.run [zr 7 (.mv (zt 1)), zr 8 (.lenl (zt 7)), zr 9 (.mv (zi 0))])
  (.block 0 (.loop rc65_1)))
  rc65_2))
def ce65 : List (Nat × List Nat × List Nat) := []
def ro65 : List RO := [(.mv (zt 4))]
theorem ok65 : okFn Tryz.prog 65 34 ce65 = some (rc65, ro65) := by kernel_rfl
def rc66_0 : RC := (.seq (.run [zr 32 (.ldn 6 (zt 5)), ze (.st 6 (zt 2) (zt 32)), za 3 (.const .nilIface)])
  .ret)
def rc66_1 : RC := (.seq (.seq (.run [zr 28 (.mv (zt 6)), zr 29 (.eq true (.iface []) (zt 28) (.const .nilIface))])
  (.cond (zt 29)
  (.seq (.run [zr 30 (.bld [(.int .i64 0), (.int .u64 0), (.int .u64 0), (.int .u64 0), (.int .u64 0), (.slice none 0 0)] []), zr 31 (.mv (zt 6)), ze (.st 6 (zt 2) (zt 30)), za 3 (zt 31)])
  .ret)
  .skip))
  rc66_0)
def rc66_2 : RC := (.seq (.run [zr 12 (.mv (zt 0)), zr 13 (.bld [(.string ⟨#[]⟩), (.int .i64 0)] [(0, 1, (zt 12))]), zf 14 (.bx 178 (zt 13)), za 4 (zt 14)])
  (.seq (.run [zr 16 (.mv (zt 4)), zc 17 85 [(zt 16), (zi 0)], zr 15 (.mv (zt 17)), zr 18 (.ext 0 (zt 15)), zr 19 (.ext 1 (zt 15)), zf 5 (.al [(.int .i64 0), (.int .u64 0), (.int .u64 0), (.int .u64 0), (.int .u64 0), (.slice none 0 0)] 76), ze (.st 6 (zt 5) (zt 18)), za 6 (zt 19)])
  (.seq (.seq (.run [zr 20 (.mv (zt 6)), zr 21 (.eq false (.iface []) (zt 20) (.const .nilIface)), zr 22 (.mv (zt 21)), zg 23 22 true (.mv (zt 4)), ⟨(some 24), (some (22, true)), (.c (.fn 86 [(zt 23)])), []⟩, zr 25 (.pick (zt 22) (zt 24) (.const (.bool false)))])
  (.cond (zt 25)
  (.run [zr 26 (.mv (zt 4)), zc 27 87 [(zt 26)], za 6 (zt 27)])
  .skip))
  rc66_1)))
def rc66 : RC := (.seq (.run [zf 2 (.al [(.int .i64 0), (.int .u64 0), (.int .u64 0), (.int .u64 0), (.int .u64 0), (.slice none 0 0)] 76), za 3 (.const .nilIface)])
  (.seq (.seq (.run [zr 7 (.mv (zt 0)), zr 8 (.lens (zt 7)), zr 9 (.bin .gtr (zt 8) (zi 64))])
  (.cond (zt 9)
  (.seq (.run [zr 10 (.bld [(.int .i64 0), (.int .u64 0), (.int .u64 0), (.int .u64 0), (.int .u64 0), (.slice none 0 0)] []), zc 11 47 [(zi 7), (zi 64)], ze (.st 6 (zt 2) (zt 10)), za 3 (zt 11)])
  .ret)
  .skip))
  rc66_2))
def ce66 : List (Nat × List Nat × List Nat) := []
def ro66 : List RO := [(.ldn 6 (zt 2)), (.mv (zt 3))]
theorem ok66 : okFn Tryz.prog 66 33 ce66 = some (rc66, ro66) := by kernel_rfl
def rc67_0 : RC := (.seq (.block 3 (.seq (.run [zr 67 (.mv (zt 65)), za 8 (zt 67)])
  (.run [zr 68 (.mv (zt 7)), zr 69 (.mv (zt 8)), zr 70 (.mv (zt 3)), zr 71 (.nck (zt 70)), zr 72 (.fa 1 (zt 71)), zr 73 (.ld (zt 72)), zr 74 (.mv (zt 6)), zr 75 (.mv (zt 8)), zr 76 (.bld [(.int .i64 0), (.int .i64 0)] [(0, 1, (zt 74)), (1, 1, (zt 75))]), zr 77 (.lku 2 false (.bool false) (zt 73) (zt 76)), zr 78 (.ia 1 (zt 68) (zt 69)), ze (.st 1 (zt 78) (zt 77))])))
  (.run [zr 79 (.bin .add (zt 65) (zi 1)), zr 65 (.mv (zt 79))]))
def rc67_1 : RC := (.seq (.run [zr 66 (.bin .lss (zt 65) (zt 64))])
  (.seq (.cond (zt 66)
  .skip
  (.exit 2))
  rc67_0))
def rc67_2 : RC := (.seq (.block 1 (.seq (.run [zr 30 (.mv (zt 28)), za 6 (zt 30)])
  (.seq (.run [zr 31 (.mv (zt 5)), zr 32 (.mv (zt 5)), zr 33 (.nck (zt 32)), zr 34 (.fa 2 (zt 33)), zr 35 (.ld (zt 34)), zr 36 (.fa 0 (zt 4)), zr 37 (.ld (zt 36)), zr 38 (.mv (zt 6)), zr 39 (.lku 0 false (.bool false) (zt 37) (zt 38)), ⟨(some 40), none, (.e (.bsl 4 1 1 [(.bool false)] [(0, 1, (zt 39))])), [(35, none, .ld (zt 34))]⟩, zf 41 (.app 4 1 1 (zt 35) (zt 40)), zr 42 (.nck (zt 31)), zr 43 (.fa 2 (zt 42)), ze (.st 1 (zt 43) (zt 41))])
  (.seq (.run [zr 44 (.mv (zt 5)), zr 45 (.mv (zt 5)), zr 46 (.nck (zt 45)), zr 47 (.fa 3 (zt 46)), zr 48 (.ld (zt 47)), zr 49 (.fa 1 (zt 4)), zr 50 (.ld (zt 49)), zr 51 (.mv (zt 6)), zr 52 (.lku 0 false (.bool false) (zt 50) (zt 51)), ⟨(some 53), none, (.e (.bsl 4 1 1 [(.bool false)] [(0, 1, (zt 52))])), [(48, none, .ld (zt 47))]⟩, zf 54 (.app 4 1 1 (zt 48) (zt 53)), zr 55 (.nck (zt 44)), zr 56 (.fa 3 (zt 55)), ze (.st 1 (zt 56) (zt 54))])
  (.seq (.run [zr 57 (.mv (zt 3)), zr 58 (.nck (zt 57)), zr 59 (.fa 0 (zt 58)), zr 60 (.ld (zt 59)), zr 61 (.lenl (zt 60)), zf 62 (.mks 4 1 (.bool false) (zt 61) (zt 61)), za 7 (zt 62)])
  (.seq (.seq (.run [zr 63 (.mv (zt 7)), zr 64 (.lenl (zt 63)), zr 65 (.mv (zi 0))])
  (.block 2 (.loop rc67_1)))
  (.run [zr 80 (.mv (zt 5)), zr 81 (.mv (zt 5)), zr 82 (.nck (zt 81)), zr 83 (.fa 1 (zt 82)), zr 84 (.ld (zt 83)), zr 85 (.mv (zt 7)), zf 86 (.bsl 142 1 1 [(.slice none 0 0)] [(0, 1, (zt 85))]), zf 87 (.app 142 1 24 (zt 84) (zt 86)), zr 88 (.nck (zt 80)), zr 89 (.fa 1 (zt 88)), ze (.st 1 (zt 89) (zt 87))])))))))
  (.run [zr 90 (.bin .add (zt 28) (zi 1)), zr 28 (.mv (zt 90))]))
def rc67_3 : RC := (.seq (.run [zr 29 (.bin .lss (zt 28) (zt 27))])
  (.seq (.cond (zt 29)
  .skip
  (.exit 0))
  rc67_2))
def rc67_4 : RC := (.seq (.run [zr 91 (.mv (zt 5)), za 2 (zt 91)])
  .ret)
def rc67 : RC := (.seq (.run [zf 1 (.bx 76 (zt 0)), za 2 (.const (.pointer none))])
  (.seq (.run [zf 9 (.mkm), zr 10 (.bld [(.slice none 0 0), (.map none)] [(1, 1, (zt 9))]), zf 11 (.bx 183 (zt 10)), za 3 (zt 11)])
  (.seq (.run [zr 12 (.mv (zt 3)), zr 13 (.ldn 6 (zt 1)), zc 14 88 [(zt 12), (zt 13)], zf 4 (.al [(.map none), (.map none), (.bool false)] 186), ze (.st 3 (zt 4) (zt 14))])
  (.seq (.run [zr 15 (.mv (zt 3)), zr 16 (.nck (zt 15)), zr 17 (.fa 0 (zt 16)), zr 18 (.ld (zt 17)), zr 19 (.fa 2 (zt 4)), zr 20 (.ld (zt 19)), zr 21 (.bld [(.slice none 0 0), (.slice none 0 0), (.slice none 0 0), (.slice none 0 0), (.bool false)] [(0, 1, (zt 18)), (4, 1, (zt 20))]), zf 22 (.bx 175 (zt 21)), za 5 (zt 22)])
  (.seq (.seq (.run [zr 23 (.mv (zt 3)), zr 24 (.nck (zt 23)), zr 25 (.fa 0 (zt 24)), zr 26 (.ld (zt 25)), zr 27 (.lenl (zt 26)), zr 28 (.mv (zi 0))])
  (.block 0 (.loop rc67_3)))
  rc67_4)))))
def ce67 : List (Nat × List Nat × List Nat) := [(3, [0, 1, 2, 3, 4, 5, 6, 7, 8], [0, 1, 3, 7, 0, 16, 63, 127, 255]), (7, [0, 1, 2, 3, 4, 5, 6, 7, 8, 9, 10, 11, 12, 13], [0, 0, 2, 6, 14, 0, 32, 0, 224, 480, 1022, 2047, 4095, 8191]), (8, [0, 1, 2, 3, 4, 5, 6, 7, 8, 9, 10, 11, 12, 13], [0, 0, 2, 6, 14, 0, 32, 0, 224, 480, 1022, 2047, 4095, 8191])]
def ro67 : List RO := [(.mv (zt 2))]
theorem ok67 : okFn Tryz.prog 67 92 ce67 = some (rc67, ro67) := by kernel_rfl
def rc68 : RC := (.seq (.run [za 2 (.const (.bool false))])
  (.seq (.run [zr 3 (.mv (zt 0)), zr 4 (.nck (zt 3)), zr 5 (.fa 4 (zt 4)), zr 6 (.ld (zt 5)), za 2 (zt 6)])
  .ret))
def ce68 : List (Nat × List Nat × List Nat) := []
def ro68 : List RO := [(.mv (zt 2))]
theorem ok68 : okFn Tryz.prog 68 7 ce68 = some (rc68, ro68) := by kernel_rfl
def rc70_0 : RC := (.seq (.block 1 (.seq (.run [zr 6 (.mv (zt 4)), za 3 (zt 6)])
  (.run [zr 7 (.mv (zt 3)), zr 8 (.mv (zt 3)), zr 9 (.iaa 4 1 (zt 1) (zt 8)), zr 10 (.ld (zt 9)), zr 11 (.com (zt 10)), zr 12 (.iaa 4 1 (zt 1) (zt 7)), ze (.st 1 (zt 12) (zt 11))])))
  (.run [zr 13 (.bin .add (zt 4) (zi 1)), zr 4 (.mv (zt 13))]))
def rc70_1 : RC := (.seq (.run [zr 5 (.bin .lss (zt 4) (zi 4))])
  (.seq (.cond (zt 5)
  .skip
  (.exit 0))
  rc70_0))
def rc70_2 : RC := (.seq (.run [zr 14 (.ldn 4 (zt 1)), ze (.st 4 (zt 2) (zt 14))])
  .ret)
def rc70 : RC := (.seq (.run [zf 1 (.bx 73 (zt 0)), zf 2 (.al [(.int .u64 0), (.int .u64 0), (.int .u64 0), (.int .u64 0)] 73)])
  (.seq (.seq (.run [zr 4 (.mv (zi 0))])
  (.block 0 (.loop rc70_1)))
  rc70_2))
def ce70 : List (Nat × List Nat × List Nat) := []
def ro70 : List RO := [(.ldn 4 (zt 2))]
theorem ok70 : okFn Tryz.prog 70 15 ce70 = some (rc70, ro70) := by kernel_rfl
def rc71 : RC := (.seq (.run [zf 2 (.bx 73 (zt 0)), zf 4 (.al [(.int .u64 0), (.int .u64 0), (.int .u64 0), (.int .u64 0)] 73)])
  (.seq (.run [zr 5 (.mv (zt 1)), zr 6 (.bin .quo (zt 5) (.const (.int .u8 64))), zr 7 (.iaa 4 1 (zt 2) (zt 6)), zr 8 (.ld (zt 7)), zr 9 (.mv (zt 1)), zr 10 (.bin .rem (zt 9) (.const (.int .u8 64))), zr 11 (.bin .shl (.const (.int .u64 1)) (zt 10)), zr 12 (.bin .or (zt 8) (zt 11)), zr 13 (.iaa 4 1 (zt 2) (zt 6)), ze (.st 1 (zt 13) (zt 12))])
  (.seq (.run [zr 14 (.ldn 4 (zt 2)), ze (.st 4 (zt 4) (zt 14))])
  .ret)))
def ce71 : List (Nat × List Nat × List Nat) := []
def ro71 : List RO := [(.ldn 4 (zt 4))]
theorem ok71 : okFn Tryz.prog 71 15 ce71 = some (rc71, ro71) := by kernel_rfl
def rc72 : RC := (.seq (.run [za 2 (.const (.bool false))])
  (.seq (.run [zr 3 (.mv (zt 0)), zr 4 (.bin .geq (zt 3) (.const (.int .u8 97))), zr 5 (.mv (zt 4)), zg 6 5 true (.mv (zt 0)), zg 7 5 true (.bin .leq (zt 6) (.const (.int .u8 122))), zr 8 (.pick (zt 5) (zt 7) (.const (.bool false))), za 2 (zt 8)])
  .ret))
def ce72 : List (Nat × List Nat × List Nat) := []
def ro72 : List RO := [(.mv (zt 2))]
theorem ok72 : okFn Tryz.prog 72 9 ce72 = some (rc72, ro72) := by kernel_rfl
def rc73_0 : RC := (.block 1 (.run [zr 30 (.mv (zt 3)), zr 31 (.bin .add (zt 30) (zi 1)), za 3 (zt 31)]))
def rc73_1 : RC := (.seq (.seq (.run [zr 4 (.mv (zt 3)), zr 5 (.mv (zt 0)), zr 6 (.lens (zt 5)), zr 7 (.bin .lss (zt 4) (zt 6)), zr 8 (.mv (zt 7)), zg 9 8 true (.mv (zt 0)), zg 10 8 true (.mv (zt 3)), zg 11 8 true (.ixs (zt 9) (zt 10)), ⟨(some 12), (some (8, true)), (.c (.fn 72 [(zt 11)])), []⟩, zg 13 8 true (.mv (zt 12)), zg 14 13 false (.mv (zt 3)), zg 15 13 false (.bin .gtr (zt 14) (zi 0)), zg 16 13 false (.mv (zt 15)), zg 17 16 true (.mv (zt 0)), zg 18 16 true (.mv (zt 3)), zg 19 16 true (.ixs (zt 17) (zt 18)), ⟨(some 20), (some (16, true)), (.c (.fn 74 [(zt 19)])), []⟩, zg 21 16 true (.mv (zt 20)), zg 22 21 false (.mv (zt 0)), zg 23 21 false (.mv (zt 3)), zg 24 21 false (.ixs (zt 22) (zt 23)), zg 25 21 false (.bin .eql (zt 24) (.const (.int .u8 45))), zg 26 16 true (.pick (zt 21) (.const (.bool true)) (zt 25)), zg 27 13 false (.pick (zt 16) (zt 26) (.const (.bool false))), zg 28 8 true (.pick (zt 13) (.const (.bool true)) (zt 27)), zr 29 (.pick (zt 8) (zt 28) (.const (.bool false)))])
  (.cond (zt 29)
  .skip
  (.exit 0)))
  rc73_0)
def rc73_2 : RC := (.seq (.run [zr 32 (.mv (zt 3)), za 2 (zt 32)])
  .ret)
def rc73 : RC := (.seq (.run [za 2 (zi 0)])
  (.seq (.run [za 3 (zi 0)])
  (.seq (.block 0 (.loop rc73_1))
  rc73_2)))
def ce73 : List (Nat × List Nat × List Nat) := []
def ro73 : List RO := [(.mv (zt 2))]
theorem ok73 : okFn Tryz.prog 73 33 ce73 = some (rc73, ro73) := by kernel_rfl
def rc74 : RC := (.seq (.run [za 2 (.const (.bool false))])
  (.seq (.run [zr 3 (.mv (zt 0)), zr 4 (.bin .geq (zt 3) (.const (.int .u8 48))), zr 5 (.mv (zt 4)), zg 6 5 true (.mv (zt 0)), zg 7 5 true (.bin .leq (zt 6) (.const (.int .u8 57))), zr 8 (.pick (zt 5) (zt 7) (.const (.bool false))), za 2 (zt 8)])
  .ret))
def ce74 : List (Nat × List Nat × List Nat) := []
def ro74 : List RO := [(.mv (zt 2))]
theorem ok74 : okFn Tryz.prog 74 9 ce74 = some (rc74, ro74) := by kernel_rfl
def rc75_0 : RC := (.block 1 (.run [zr 26 (.mv (zt 8)), zr 27 (.bin .add (zt 26) (zi 1)), za 8 (zt 27)]))
def rc75_1 : RC := (.seq (.seq (.run [zr 14 (.mv (zt 8)), zr 15 (.mv (zt 0)), zr 16 (.lens (zt 15)), zr 17 (.bin .lss (zt 14) (zt 16)), zr 18 (.mv (zt 17)), zg 19 18 true (.mv (zt 7)), zg 20 18 true (.mv (zt 0)), zg 21 18 true (.mv (zt 8)), zg 22 18 true (.ixs (zt 20) (zt 21)), ⟨(some 23), (some (18, true)), (.c (.fn 77 [(zt 19), (zt 22)])), []⟩, zg 24 18 true (.bin .geq (zt 23) (zi 0)), zr 25 (.pick (zt 18) (zt 24) (.const (.bool false)))])
  (.cond (zt 25)
  .skip
  (.exit 0)))
  rc75_0)
def rc75_2 : RC := (.seq (.run [zr 56 (.mv (zt 8)), zr 57 (.mv (zt 9)), zr 58 (.cvi .i64 (zt 57)), za 2 (zt 56), za 3 (zt 58), za 4 (.const (.bool true))])
  .ret)
def rc75_3 : RC := (.seq (.run [zr 29 (.mv (zt 0)), zr 30 (.mv (zt 6)), zr 31 (.mv (zt 8)), zr 32 (.sls (zt 29) (some (zt 30)) (some (zt 31))), zr 33 (.mv (zt 5)), zc 34 90 [(zt 32), (zt 33), (zi 32)], zr 28 (.mv (zt 34)), zr 35 (.ext 0 (zt 28)), zr 36 (.ext 1 (zt 28)), za 9 (zt 35), za 10 (zt 36)])
  (.seq (.seq (.run [zr 37 (.mv (zt 10)), zr 38 (.eq true (.iface []) (zt 37) (.const .nilIface)), zr 39 (.mv (zt 38)), zg 40 39 false (.mv (zt 9)), zg 41 39 false (.mv (zt 5)), zg 43 39 false (.mv (zt 0)), zg 44 39 false (.mv (zt 6)), zg 45 39 false (.mv (zt 8)), zg 46 39 false (.sls (zt 43) (some (zt 44)) (some (zt 45))), ⟨(some 42), (some (39, false)), (.c (.fn 91 [(zt 40), (zt 41)])), []⟩, zg 47 39 false (.bin .neq (zt 42) (zt 46)), zr 48 (.pick (zt 39) (.const (.bool true)) (zt 47)), zr 49 (.mv (zt 48)), zg 50 49 false (.mv (zt 0)), zg 51 49 false (.mv (zt 8)), zg 52 49 false (.sls (zt 50) (some (zt 51)) none), ⟨(some 53), (some (49, false)), (.c (.fn 73 [(zt 52)])), []⟩, zg 54 49 false (.bin .gtr (zt 53) (zi 0)), zr 55 (.pick (zt 49) (.const (.bool true)) (zt 54))])
  (.cond (zt 55)
  (.seq (.run [za 2 (zi 0), za 3 (zi 0), za 4 (.const (.bool false))])
  .ret)
  .skip))
  rc75_2))
def rc75_4 : RC := (.seq (.run [zr 13 (.mv (zt 6)), za 8 (zt 13)])
  (.seq (.block 0 (.loop rc75_1))
  rc75_3))
def rc75 : RC := (.seq (.run [za 2 (zi 0), za 3 (zi 0), za 4 (.const (.bool false))])
  (.seq (.run [za 5 (zi 10), za 6 (zi 0), za 7 (.const (.string ⟨#[48, 49, 50, 51, 52, 53, 54, 55, 56, 57]⟩))])
  (.seq (.seq (.run [zr 11 (.mv (zt 0)), zc 12 89 [(zt 11), (.const (.string ⟨#[48, 120]⟩))]])
  (.cond (zt 12)
  (.run [za 5 (zi 16), za 6 (zi 2), za 7 (.const (.string ⟨#[48, 49, 50, 51, 52, 53, 54, 55, 56, 57, 97, 98, 99, 100, 101, 102]⟩))])
  .skip))
  rc75_4)))
def ce75 : List (Nat × List Nat × List Nat) := [(8, [0, 1, 2, 3, 4, 6, 7, 8, 9, 5, 10, 11, 12, 13, 14, 15, 16, 17, 18], [0, 1, 3, 7, 7, 31, 7, 7, 7, 455, 1023, 2047, 4095, 8191, 8191, 32767, 65535, 131071, 262143])]
def ro75 : List RO := [(.mv (zt 2)), (.mv (zt 3)), (.mv (zt 4))]
theorem ok75 : okFn Tryz.prog 75 59 ce75 = some (rc75, ro75) := by kernel_rfl
def rc76_0 : RC := (.seq (.run [zr 48 (.mv (zt 0)), zr 49 (.mv (zt 6)), zr 50 (.ixs (zt 48) (zt 49))])
  (.block 3 (.seq (.run [zr 56 (.bin .eql (zt 50) (.const (.int .u8 114))), za 55 (zt 56)])
  (.cond (zt 55)
  (.run [zc 57 62 [(zt 5), (.const (.int .u8 13))]])
  (.seq (.run [zr 59 (.bin .eql (zt 50) (.const (.int .u8 110))), za 58 (zt 59)])
  (.cond (zt 58)
  (.run [zc 60 62 [(zt 5), (.const (.int .u8 10))]])
  (.run [zr 51 (.mv (zt 0)), zr 52 (.mv (zt 6)), zr 53 (.ixs (zt 51) (zt 52)), zc 54 62 [(zt 5), (zt 53)]])))))))
def rc76_1 : RC := (.seq (.run [zr 35 (.mv (zt 6)), zr 36 (.bin .add (zt 35) (zi 1)), za 6 (zt 36)])
  (.seq (.seq (.run [zr 37 (.mv (zt 6)), zr 38 (.mv (zt 0)), zr 39 (.lens (zt 38)), zr 40 (.bin .eql (zt 37) (zt 39)), zr 41 (.mv (zt 40)), zg 42 41 false (.mv (zt 0)), zg 43 41 false (.mv (zt 6)), zg 44 41 false (.ixs (zt 42) (zt 43)), ⟨(some 45), (some (41, false)), (.c (.fn 77 [(.const (.string ⟨#[92, 34, 114, 110]⟩)), (zt 44)])), []⟩, zg 46 41 false (.bin .lss (zt 45) (zi 0)), zr 47 (.pick (zt 41) (.const (.bool true)) (zt 46))])
  (.cond (zt 47)
  (.seq (.run [za 2 (zi 0), za 3 (.const (.string ⟨#[]⟩)), za 4 (.const (.bool false))])
  .ret)
  .skip))
  rc76_0))
def rc76_2 : RC := (.seq (.block 1 (.seq (.run [zr 14 (.mv (zt 0)), zr 15 (.mv (zt 6)), zr 16 (.ixs (zt 14) (zt 15)), za 7 (zt 16)])
  (.seq (.block 2 (.seq (.run [zr 18 (.mv (zt 7)), zr 19 (.bin .eql (zt 18) (.const (.int .u8 34))), za 17 (zt 19)])
  (.cond (zt 17)
  (.seq (.run [zr 20 (.mv (zt 6)), zr 21 (.bin .add (zt 20) (zi 1)), zc 22 40 [(zt 5)], za 2 (zt 21), za 3 (zt 22), za 4 (.const (.bool true))])
  .ret)
  (.seq (.run [zr 24 (.mv (zt 7)), zr 25 (.bin .lss (zt 24) (.const (.int .u8 32))), zr 26 (.mv (zt 25)), zg 27 26 false (.mv (zt 7)), zg 28 26 false (.bin .gtr (zt 27) (.const (.int .u8 126))), zr 29 (.pick (zt 26) (.const (.bool true)) (zt 28)), za 23 (zt 29)])
  (.cond (zt 23)
  (.seq (.run [za 2 (zi 0), za 3 (.const (.string ⟨#[]⟩)), za 4 (.const (.bool false))])
  .ret)
  (.seq (.run [zr 31 (.mv (zt 7)), zr 32 (.bin .neq (zt 31) (.const (.int .u8 92))), za 30 (zt 32)])
  (.cond (zt 30)
  (.seq (.run [zr 33 (.mv (zt 7)), zc 34 62 [(zt 5), (zt 33)]])
  (.exit 1))
  .skip)))))))
  rc76_1)))
  (.run [zr 12 (.mv (zt 6)), zr 13 (.bin .add (zt 12) (zi 1)), za 6 (zt 13)]))
def rc76_3 : RC := (.seq (.seq (.run [zr 8 (.mv (zt 6)), zr 9 (.mv (zt 0)), zr 10 (.lens (zt 9)), zr 11 (.bin .lss (zt 8) (zt 10))])
  (.cond (zt 11)
  .skip
  (.exit 0)))
  rc76_2)
def rc76_4 : RC := (.seq (.run [za 2 (zi 0), za 3 (.const (.string ⟨#[]⟩)), za 4 (.const (.bool false))])
  .ret)
def rc76 : RC := (.seq (.run [za 2 (zi 0), za 3 (.const (.string ⟨#[]⟩)), za 4 (.const (.bool false))])
  (.seq (.run [zf 5 (.al [(.pointer none), (.slice none 0 0)] 96)])
  (.seq (.seq (.run [za 6 (zi 1)])
  (.block 0 (.loop rc76_3)))
  rc76_4)))
def ce76 : List (Nat × List Nat × List Nat) := []
def ro76 : List RO := [(.mv (zt 2)), (.mv (zt 3)), (.mv (zt 4))]
theorem ok76 : okFn Tryz.prog 76 61 ce76 = some (rc76, ro76) := by kernel_rfl
def rc77 : RC := (.seq (.run [za 4 (zi 0)])
  (.seq (.run [zr 5 (.mv (zt 0)), zr 6 (.mv (zt 1)), zc 7 92 [(zt 5), (zt 6)], za 4 (zt 7)])
  .ret))
def ce77 : List (Nat × List Nat × List Nat) := []
def ro77 : List RO := [(.mv (zt 4))]
theorem ok77 : okFn Tryz.prog 77 8 ce77 = some (rc77, ro77) := by kernel_rfl
def rc83 : RC := (.seq (.run [za 2 (.const (.string ⟨#[]⟩))])
  (.seq (.run [zr 3 (.mv (zt 0)), zc 4 94 [(zt 3), (zi 10)], za 2 (zt 4)])
  .ret))
def ce83 : List (Nat × List Nat × List Nat) := []
def ro83 : List RO := [(.mv (zt 2))]
theorem ok83 : okFn Tryz.prog 83 5 ce83 = some (rc83, ro83) := by kernel_rfl
def rc84 : RC := (.seq (.run [zf 2 (.bx 73 (zt 0)), za 4 (.const (.bool false))])
  (.seq (.run [zr 5 (.mv (zt 1)), zr 6 (.bin .quo (zt 5) (.const (.int .u8 64))), zr 7 (.iaa 4 1 (zt 2) (zt 6)), zr 8 (.ld (zt 7)), zr 9 (.mv (zt 1)), zr 10 (.bin .rem (zt 9) (.const (.int .u8 64))), zr 11 (.bin .shr (zt 8) (zt 10)), zr 12 (.bin .and (zt 11) (.const (.int .u64 1))), zr 13 (.bin .eql (zt 12) (.const (.int .u64 1))), za 4 (zt 13)])
  .ret))
def ce84 : List (Nat × List Nat × List Nat) := []
def ro84 : List RO := [(.mv (zt 4))]
theorem ok84 : okFn Tryz.prog 84 14 ce84 = some (rc84, ro84) := by kernel_rfl
def rc85_0 : RC := (.block 1 (.seq (.run [zr 21 (.mv (zt 0)), zr 22 (.nck (zt 21)), zr 23 (.fa 1 (zt 22)), zr 24 (.ld (zt 23)), zr 25 (.bin .add (zt 24) (zi 1)), zr 26 (.nck (zt 21)), zr 27 (.fa 1 (zt 26)), ze (.st 1 (zt 27) (zt 25))])
  (.seq (.run [zf 8 (.al [(.int .i64 0), (.int .u64 0), (.int .u64 0), (.int .u64 0), (.int .u64 0), (.slice none 0 0)] 76)])
  (.seq (.run [zr 29 (.mv (zt 0)), zr 30 (.mv (zt 1)), zc 31 95 [(zt 29), (zt 30)], zr 28 (.mv (zt 31)), zr 32 (.ext 0 (zt 28)), zr 33 (.ext 1 (zt 28)), ze (.st 6 (zt 8) (zt 32)), za 7 (zt 33)])
  (.run [zr 34 (.ldn 6 (zt 6)), zr 35 (.ldn 6 (zt 8)), zf 36 (.bsl 76 6 2 [(.int .i64 0), (.int .u64 0), (.int .u64 0), (.int .u64 0), (.int .u64 0), (.slice none 0 0), (.int .i64 0), (.int .u64 0), (.int .u64 0), (.int .u64 0), (.int .u64 0), (.slice none 0 0)] [(0, 6, (zt 34)), (6, 6, (zt 35))]), zr 37 (.bld [(.int .i64 0), (.int .u64 0), (.int .u64 0), (.int .u64 0), (.int .u64 0), (.slice none 0 0)] [(0, 1, (zi 3)), (5, 1, (zt 36))]), ze (.st 6 (zt 6) (zt 37))])))))
def rc85_1 : RC := (.seq (.seq (.run [zr 15 (.mv (zt 7)), zr 16 (.eq false (.iface []) (zt 15) (.const .nilIface)), zr 17 (.mv (zt 16)), zg 18 17 true (.mv (zt 0)), ⟨(some 19), (some (17, true)), (.c (.fn 96 [(zt 18), (.const (.int .u8 124))])), []⟩, zr 20 (.pick (zt 17) (zt 19) (.const (.bool false)))])
  (.cond (zt 20)
  .skip
  (.exit 0)))
  rc85_0)
def rc85_2 : RC := (.seq (.run [zr 42 (.ldn 6 (zt 6)), ze (.st 6 (zt 4) (zt 42)), za 5 (.const .nilIface)])
  .ret)
def rc85_3 : RC := (.seq (.seq (.run [zr 38 (.mv (zt 7)), zr 39 (.eq true (.iface []) (zt 38) (.const .nilIface))])
  (.cond (zt 39)
  (.seq (.run [zr 40 (.bld [(.int .i64 0), (.int .u64 0), (.int .u64 0), (.int .u64 0), (.int .u64 0), (.slice none 0 0)] []), zr 41 (.mv (zt 7)), ze (.st 6 (zt 4) (zt 40)), za 5 (zt 41)])
  .ret)
  .skip))
  rc85_2)
def rc85 : RC := (.seq (.run [zf 4 (.al [(.int .i64 0), (.int .u64 0), (.int .u64 0), (.int .u64 0), (.int .u64 0), (.slice none 0 0)] 76), za 5 (.const .nilIface)])
  (.seq (.run [zr 10 (.mv (zt 0)), zr 11 (.mv (zt 1)), zc 12 95 [(zt 10), (zt 11)], zr 9 (.mv (zt 12)), zr 13 (.ext 0 (zt 9)), zr 14 (.ext 1 (zt 9)), zf 6 (.al [(.int .i64 0), (.int .u64 0), (.int .u64 0), (.int .u64 0), (.int .u64 0), (.slice none 0 0)] 76), ze (.st 6 (zt 6) (zt 13)), za 7 (zt 14)])
  (.seq (.block 0 (.loop rc85_1))
  rc85_3)))
def ce85 : List (Nat × List Nat × List Nat) := []
def ro85 : List RO := [(.ldn 6 (zt 4)), (.mv (zt 5))]
theorem ok85 : okFn Tryz.prog 85 43 ce85 = some (rc85, ro85) := by kernel_rfl
def rc86 : RC := (.seq (.run [za 2 (.const (.bool false))])
  (.seq (.run [zr 3 (.mv (zt 0)), zr 4 (.nck (zt 3)), zr 5 (.fa 1 (zt 4)), zr 6 (.ld (zt 5)), zr 7 (.mv (zt 0)), zr 8 (.nck (zt 7)), zr 9 (.fa 0 (zt 8)), zr 10 (.ld (zt 9)), zr 11 (.lens (zt 10)), zr 12 (.bin .lss (zt 6) (zt 11)), za 2 (zt 12)])
  .ret))
def ce86 : List (Nat × List Nat × List Nat) := [(1, [0, 1, 2, 3, 4, 5, 6, 7, 8, 9, 10], [0, 1, 3, 7, 0, 16, 48, 112, 240, 511, 1023])]
def ro86 : List RO := [(.mv (zt 2))]
theorem ok86 : okFn Tryz.prog 86 13 ce86 = some (rc86, ro86) := by kernel_rfl
def rc87 : RC := (.seq (.run [za 2 (.const .nilIface)])
  (.seq (.run [zr 3 (.mv (zt 0)), zr 4 (.nck (zt 3)), zr 5 (.fa 1 (zt 4)), zr 6 (.ld (zt 5)), zc 7 47 [(zi 8), (zt 6)], za 2 (zt 7)])
  .ret))
def ce87 : List (Nat × List Nat × List Nat) := []
def ro87 : List RO := [(.mv (zt 2))]
theorem ok87 : okFn Tryz.prog 87 8 ce87 = some (rc87, ro87) := by kernel_rfl
def rc88_0 : RC := (.run [⟨(some 6), none, (.e (.al [(.map none), (.map none), (.bool false)] 186)), [(42, none, .ld (zt 41)), (44, none, .ldn 6 (zt 43)), (48, none, .ld (zt 47)), (50, none, .ldn 6 (zt 49))]⟩, ⟨(some 7), none, (.e (.al [(.map none), (.map none), (.bool false)] 186)), [(42, none, .ld (zt 41)), (44, none, .ldn 6 (zt 43)), (48, none, .ld (zt 47)), (50, none, .ldn 6 (zt 49))]⟩, ze (.st 3 (zt 6) (zt 45)), ze (.st 3 (zt 7) (zt 51))])
def rc88_1 : RC := (.run [⟨(some 7), none, (.e (.al [(.map none), (.map none), (.bool false)] 186)), [(42, none, .ld (zt 41)), (44, none, .ldn 6 (zt 43)), (48, none, .ld (zt 47)), (50, none, .ldn 6 (zt 49))]⟩, ⟨(some 6), none, (.e (.al [(.map none), (.map none), (.bool false)] 186)), [(42, none, .ld (zt 41)), (44, none, .ldn 6 (zt 43)), (48, none, .ld (zt 47)), (50, none, .ldn 6 (zt 49))]⟩, ze (.st 3 (zt 6) (zt 45)), ze (.st 3 (zt 7) (zt 51))])
def rc88_2 : RC := (.fork [zc 51 88 [(zt 46), (zt 50)]]
  rc88_0
  rc88_1)
def rc88_3 : RC := (.run [zc 51 88 [(zt 46), (zt 50)], ⟨(some 7), none, (.e (.al [(.map none), (.map none), (.bool false)] 186)), [(42, none, .ld (zt 41)), (44, none, .ldn 6 (zt 43)), (48, none, .ld (zt 47)), (50, none, .ldn 6 (zt 49))]⟩, ze (.st 3 (zt 6) (zt 45)), ze (.st 3 (zt 7) (zt 51))])
def rc88_4 : RC := (.run [⟨(some 7), none, (.e (.al [(.map none), (.map none), (.bool false)] 186)), [(42, none, .ld (zt 41)), (44, none, .ldn 6 (zt 43)), (48, none, .ld (zt 47)), (50, none, .ldn 6 (zt 49))]⟩, zc 51 88 [(zt 46), (zt 50)], ze (.st 3 (zt 6) (zt 45)), ze (.st 3 (zt 7) (zt 51))])
def rc88_5 : RC := (.fork [⟨(some 6), none, (.e (.al [(.map none), (.map none), (.bool false)] 186)), [(42, none, .ld (zt 41)), (44, none, .ldn 6 (zt 43)), (48, none, .ld (zt 47)), (50, none, .ldn 6 (zt 49))]⟩]
  rc88_3
  rc88_4)
def rc88_6 : RC := (.run [zc 51 88 [(zt 46), (zt 50)], ⟨(some 6), none, (.e (.al [(.map none), (.map none), (.bool false)] 186)), [(42, none, .ld (zt 41)), (44, none, .ldn 6 (zt 43)), (48, none, .ld (zt 47)), (50, none, .ldn 6 (zt 49))]⟩, ze (.st 3 (zt 6) (zt 45)), ze (.st 3 (zt 7) (zt 51))])
def rc88_7 : RC := (.run [⟨(some 6), none, (.e (.al [(.map none), (.map none), (.bool false)] 186)), [(42, none, .ld (zt 41)), (44, none, .ldn 6 (zt 43)), (48, none, .ld (zt 47)), (50, none, .ldn 6 (zt 49))]⟩, zc 51 88 [(zt 46), (zt 50)], ze (.st 3 (zt 6) (zt 45)), ze (.st 3 (zt 7) (zt 51))])
def rc88_8 : RC := (.fork [⟨(some 7), none, (.e (.al [(.map none), (.map none), (.bool false)] 186)), [(42, none, .ld (zt 41)), (44, none, .ldn 6 (zt 43)), (48, none, .ld (zt 47)), (50, none, .ldn 6 (zt 49))]⟩]
  rc88_6
  rc88_7)
def rc88_9 : RC := (.fork []
  rc88_5
  rc88_8)
def rc88_10 : RC := (.fork [⟨(some 45), none, (.c (.fn 88 [(zt 40), (zt 44)])), [(48, none, .ld (zt 47)), (50, none, .ldn 6 (zt 49))]⟩]
  rc88_2
  rc88_9)
def rc88_11 : RC := (.fork [⟨(some 45), none, (.c (.fn 88 [(zt 40), (zt 44)])), [(48, none, .ld (zt 47)), (50, none, .ldn 6 (zt 49))]⟩]
  rc88_3
  rc88_4)
def rc88_12 : RC := (.run [⟨(some 7), none, (.e (.al [(.map none), (.map none), (.bool false)] 186)), [(42, none, .ld (zt 41)), (44, none, .ldn 6 (zt 43)), (48, none, .ld (zt 47)), (50, none, .ldn 6 (zt 49))]⟩, ⟨(some 45), none, (.c (.fn 88 [(zt 40), (zt 44)])), [(48, none, .ld (zt 47)), (50, none, .ldn 6 (zt 49))]⟩, zc 51 88 [(zt 46), (zt 50)], ze (.st 3 (zt 6) (zt 45)), ze (.st 3 (zt 7) (zt 51))])
def rc88_13 : RC := (.fork [⟨(some 6), none, (.e (.al [(.map none), (.map none), (.bool false)] 186)), [(42, none, .ld (zt 41)), (44, none, .ldn 6 (zt 43)), (48, none, .ld (zt 47)), (50, none, .ldn 6 (zt 49))]⟩]
  rc88_11
  rc88_12)
def rc88_14 : RC := (.fork [⟨(some 45), none, (.c (.fn 88 [(zt 40), (zt 44)])), [(48, none, .ld (zt 47)), (50, none, .ldn 6 (zt 49))]⟩]
  rc88_6
  rc88_7)
def rc88_15 : RC := (.run [⟨(some 6), none, (.e (.al [(.map none), (.map none), (.bool false)] 186)), [(42, none, .ld (zt 41)), (44, none, .ldn 6 (zt 43)), (48, none, .ld (zt 47)), (50, none, .ldn 6 (zt 49))]⟩, ⟨(some 45), none, (.c (.fn 88 [(zt 40), (zt 44)])), [(48, none, .ld (zt 47)), (50, none, .ldn 6 (zt 49))]⟩, zc 51 88 [(zt 46), (zt 50)], ze (.st 3 (zt 6) (zt 45)), ze (.st 3 (zt 7) (zt 51))])
def rc88_16 : RC := (.fork [⟨(some 7), none, (.e (.al [(.map none), (.map none), (.bool false)] 186)), [(42, none, .ld (zt 41)), (44, none, .ldn 6 (zt 43)), (48, none, .ld (zt 47)), (50, none, .ldn 6 (zt 49))]⟩]
  rc88_14
  rc88_15)
def rc88_17 : RC := (.fork []
  rc88_13
  rc88_16)
def rc88_18 : RC := (.seq (.run [zr 52 (.mv (zt 0)), zr 53 (.fa 1 (zt 6)), zr 54 (.ld (zt 53)), zr 55 (.fa 0 (zt 7)), zr 56 (.ld (zt 55)), zc 57 97 [(zt 52), (zt 54), (zt 56)]])
  (.seq (.run [zr 58 (.fa 0 (zt 6)), zr 59 (.ld (zt 58)), zr 60 (.fa 2 (zt 6)), zr 61 (.ld (zt 60)), zr 62 (.fa 0 (zt 7)), zr 63 (.ld (zt 62)), zr 66 (.fa 1 (zt 7)), zr 67 (.ld (zt 66)), zr 68 (.fa 2 (zt 7)), zr 69 (.ld (zt 68)), zr 70 (.fa 1 (zt 6)), zr 71 (.ld (zt 70)), zr 74 (.fa 2 (zt 6)), zr 75 (.ld (zt 74)), ⟨(some 64), none, (.c (.fn 99 [(zt 61), (zt 63)])), [(59, none, .ld (zt 58)), (67, none, .ld (zt 66)), (69, none, .ld (zt 68)), (71, none, .ld (zt 70)), (75, none, .ld (zt 74))]⟩, ⟨(some 65), none, (.c (.fn 98 [(zt 59), (zt 64)])), [(67, none, .ld (zt 66)), (69, none, .ld (zt 68)), (71, none, .ld (zt 70)), (75, none, .ld (zt 74))]⟩, ⟨(some 72), none, (.c (.fn 99 [(zt 69), (zt 71)])), [(67, none, .ld (zt 66)), (75, none, .ld (zt 74))]⟩, ⟨(some 73), none, (.c (.fn 98 [(zt 67), (zt 72)])), [(75, none, .ld (zt 74))]⟩, zr 76 (.mv (zt 75)), zg 77 76 true (.fa 2 (zt 7)), zg 78 76 true (.ld (zt 77)), zr 79 (.pick (zt 76) (zt 78) (.const (.bool false))), zr 80 (.bld [(.map none), (.map none), (.bool false)] [(0, 1, (zt 65)), (1, 1, (zt 73)), (2, 1, (zt 79))]), ze (.st 3 (zt 4) (zt 80))])
  .ret))
def rc88_19 : RC := (.run [⟨(some 8), none, (.e (.al [(.map none), (.map none), (.bool false)] 186)), [(85, none, .ld (zt 84)), (87, none, .ldn 6 (zt 86)), (91, none, .ld (zt 90)), (93, none, .ldn 6 (zt 92))]⟩, ⟨(some 9), none, (.e (.al [(.map none), (.map none), (.bool false)] 186)), [(85, none, .ld (zt 84)), (87, none, .ldn 6 (zt 86)), (91, none, .ld (zt 90)), (93, none, .ldn 6 (zt 92))]⟩, ze (.st 3 (zt 8) (zt 88)), ze (.st 3 (zt 9) (zt 94))])
def rc88_20 : RC := (.run [⟨(some 9), none, (.e (.al [(.map none), (.map none), (.bool false)] 186)), [(85, none, .ld (zt 84)), (87, none, .ldn 6 (zt 86)), (91, none, .ld (zt 90)), (93, none, .ldn 6 (zt 92))]⟩, ⟨(some 8), none, (.e (.al [(.map none), (.map none), (.bool false)] 186)), [(85, none, .ld (zt 84)), (87, none, .ldn 6 (zt 86)), (91, none, .ld (zt 90)), (93, none, .ldn 6 (zt 92))]⟩, ze (.st 3 (zt 8) (zt 88)), ze (.st 3 (zt 9) (zt 94))])
def rc88_21 : RC := (.fork [zc 94 88 [(zt 89), (zt 93)]]
  rc88_19
  rc88_20)
def rc88_22 : RC := (.run [zc 94 88 [(zt 89), (zt 93)], ⟨(some 9), none, (.e (.al [(.map none), (.map none), (.bool false)] 186)), [(85, none, .ld (zt 84)), (87, none, .ldn 6 (zt 86)), (91, none, .ld (zt 90)), (93, none, .ldn 6 (zt 92))]⟩, ze (.st 3 (zt 8) (zt 88)), ze (.st 3 (zt 9) (zt 94))])
def rc88_23 : RC := (.run [⟨(some 9), none, (.e (.al [(.map none), (.map none), (.bool false)] 186)), [(85, none, .ld (zt 84)), (87, none, .ldn 6 (zt 86)), (91, none, .ld (zt 90)), (93, none, .ldn 6 (zt 92))]⟩, zc 94 88 [(zt 89), (zt 93)], ze (.st 3 (zt 8) (zt 88)), ze (.st 3 (zt 9) (zt 94))])
def rc88_24 : RC := (.fork [⟨(some 8), none, (.e (.al [(.map none), (.map none), (.bool false)] 186)), [(85, none, .ld (zt 84)), (87, none, .ldn 6 (zt 86)), (91, none, .ld (zt 90)), (93, none, .ldn 6 (zt 92))]⟩]
  rc88_22
  rc88_23)
def rc88_25 : RC := (.run [zc 94 88 [(zt 89), (zt 93)], ⟨(some 8), none, (.e (.al [(.map none), (.map none), (.bool false)] 186)), [(85, none, .ld (zt 84)), (87, none, .ldn 6 (zt 86)), (91, none, .ld (zt 90)), (93, none, .ldn 6 (zt 92))]⟩, ze (.st 3 (zt 8) (zt 88)), ze (.st 3 (zt 9) (zt 94))])
def rc88_26 : RC := (.run [⟨(some 8), none, (.e (.al [(.map none), (.map none), (.bool false)] 186)), [(85, none, .ld (zt 84)), (87, none, .ldn 6 (zt 86)), (91, none, .ld (zt 90)), (93, none, .ldn 6 (zt 92))]⟩, zc 94 88 [(zt 89), (zt 93)], ze (.st 3 (zt 8) (zt 88)), ze (.st 3 (zt 9) (zt 94))])
def rc88_27 : RC := (.fork [⟨(some 9), none, (.e (.al [(.map none), (.map none), (.bool false)] 186)), [(85, none, .ld (zt 84)), (87, none, .ldn 6 (zt 86)), (91, none, .ld (zt 90)), (93, none, .ldn 6 (zt 92))]⟩]
  rc88_25
  rc88_26)
def rc88_28 : RC := (.fork []
  rc88_24
  rc88_27)
def rc88_29 : RC := (.fork [⟨(some 88), none, (.c (.fn 88 [(zt 83), (zt 87)])), [(91, none, .ld (zt 90)), (93, none, .ldn 6 (zt 92))]⟩]
  rc88_21
  rc88_28)
def rc88_30 : RC := (.fork [⟨(some 88), none, (.c (.fn 88 [(zt 83), (zt 87)])), [(91, none, .ld (zt 90)), (93, none, .ldn 6 (zt 92))]⟩]
  rc88_22
  rc88_23)
def rc88_31 : RC := (.run [⟨(some 9), none, (.e (.al [(.map none), (.map none), (.bool false)] 186)), [(85, none, .ld (zt 84)), (87, none, .ldn 6 (zt 86)), (91, none, .ld (zt 90)), (93, none, .ldn 6 (zt 92))]⟩, ⟨(some 88), none, (.c (.fn 88 [(zt 83), (zt 87)])), [(91, none, .ld (zt 90)), (93, none, .ldn 6 (zt 92))]⟩, zc 94 88 [(zt 89), (zt 93)], ze (.st 3 (zt 8) (zt 88)), ze (.st 3 (zt 9) (zt 94))])
def rc88_32 : RC := (.fork [⟨(some 8), none, (.e (.al [(.map none), (.map none), (.bool false)] 186)), [(85, none, .ld (zt 84)), (87, none, .ldn 6 (zt 86)), (91, none, .ld (zt 90)), (93, none, .ldn 6 (zt 92))]⟩]
  rc88_30
  rc88_31)
def rc88_33 : RC := (.fork [⟨(some 88), none, (.c (.fn 88 [(zt 83), (zt 87)])), [(91, none, .ld (zt 90)), (93, none, .ldn 6 (zt 92))]⟩]
  rc88_25
  rc88_26)
def rc88_34 : RC := (.run [⟨(some 8), none, (.e (.al [(.map none), (.map none), (.bool false)] 186)), [(85, none, .ld (zt 84)), (87, none, .ldn 6 (zt 86)), (91, none, .ld (zt 90)), (93, none, .ldn 6 (zt 92))]⟩, ⟨(some 88), none, (.c (.fn 88 [(zt 83), (zt 87)])), [(91, none, .ld (zt 90)), (93, none, .ldn 6 (zt 92))]⟩, zc 94 88 [(zt 89), (zt 93)], ze (.st 3 (zt 8) (zt 88)), ze (.st 3 (zt 9) (zt 94))])
def rc88_35 : RC := (.fork [⟨(some 9), none, (.e (.al [(.map none), (.map none), (.bool false)] 186)), [(85, none, .ld (zt 84)), (87, none, .ldn 6 (zt 86)), (91, none, .ld (zt 90)), (93, none, .ldn 6 (zt 92))]⟩]
  rc88_33
  rc88_34)
def rc88_36 : RC := (.fork []
  rc88_32
  rc88_35)
def rc88_37 : RC := (.seq (.run [zr 95 (.fa 0 (zt 8)), zr 96 (.ld (zt 95)), zr 97 (.fa 0 (zt 9)), zr 98 (.ld (zt 97)), zr 100 (.fa 1 (zt 8)), zr 101 (.ld (zt 100)), zr 102 (.fa 1 (zt 9)), zr 103 (.ld (zt 102)), zr 105 (.fa 2 (zt 8)), zr 106 (.ld (zt 105)), ⟨(some 99), none, (.c (.fn 98 [(zt 96), (zt 98)])), [(101, none, .ld (zt 100)), (103, none, .ld (zt 102)), (106, none, .ld (zt 105))]⟩, ⟨(some 104), none, (.c (.fn 98 [(zt 101), (zt 103)])), [(106, none, .ld (zt 105))]⟩, zr 107 (.mv (zt 106)), zg 108 107 false (.fa 2 (zt 9)), zg 109 107 false (.ld (zt 108)), zr 110 (.pick (zt 107) (.const (.bool true)) (zt 109)), zr 111 (.bld [(.map none), (.map none), (.bool false)] [(0, 1, (zt 99)), (1, 1, (zt 104)), (2, 1, (zt 110))]), ze (.st 3 (zt 4) (zt 111))])
  .ret)
def rc88_38 : RC := (.seq (.run [zr 131 (.bld [(.map none), (.map none), (.bool false)] [(2, 1, (.const (.bool true)))]), ze (.st 3 (zt 4) (zt 131))])
  .ret)
def rc88 : RC := (.seq (.run [zf 3 (.bx 76 (zt 1)), zf 4 (.al [(.map none), (.map none), (.bool false)] 186)])
  (.seq (.seq (.run [zr 11 (.fa 0 (zt 3)), zr 12 (.ld (zt 11))])
  (.block 0 (.seq (.run [zr 14 (.bin .eql (zt 12) (zi 1)), za 13 (zt 14)])
  (.cond (zt 13)
  (.seq (.run [zr 15 (.mv (zt 0)), zr 16 (.nck (zt 15)), zr 17 (.fa 0 (zt 16)), zr 18 (.ld (zt 17)), zr 19 (.lenl (zt 18)), za 5 (zt 19)])
  (.seq (.run [zr 20 (.mv (zt 0)), zr 21 (.mv (zt 0)), zr 22 (.nck (zt 21)), zr 23 (.fa 0 (zt 22)), zr 24 (.ld (zt 23)), zr 25 (.fa 1 (zt 3)), zr 26 (.ldn 4 (zt 25)), ⟨(some 27), none, (.e (.bsl 73 4 1 [(.int .u64 0), (.int .u64 0), (.int .u64 0), (.int .u64 0)] [(0, 4, (zt 26))])), [(24, none, .ld (zt 23))]⟩, zf 28 (.app 73 4 32 (zt 24) (zt 27)), zr 29 (.nck (zt 20)), zr 30 (.fa 0 (zt 29)), ze (.st 1 (zt 30) (zt 28))])
  (.seq (.run [zf 31 (.mkm), zr 32 (.mv (zt 5)), ze (.mup 0 (zt 31) (zt 32) (.const (.bool true))), zr 33 (.mv (zt 31)), zf 34 (.mkm), zr 35 (.mv (zt 5)), ze (.mup 0 (zt 34) (zt 35) (.const (.bool true))), zr 36 (.mv (zt 34)), zr 37 (.bld [(.map none), (.map none), (.bool false)] [(0, 1, (zt 33)), (1, 1, (zt 36)), (2, 1, (.const (.bool false)))]), ze (.st 3 (zt 4) (zt 37))])
  .ret)))
  (.seq (.run [zr 39 (.bin .eql (zt 12) (zi 2)), za 38 (zt 39)])
  (.cond (zt 38)
  (.seq (.sem (.fork [zr 40 (.mv (zt 0)), zr 41 (.fa 5 (zt 3)), zr 42 (.ld (zt 41)), zr 43 (.ia 6 (zt 42) (zi 0)), zr 44 (.ldn 6 (zt 43)), zr 46 (.mv (zt 0)), zr 47 (.fa 5 (zt 3)), zr 48 (.ld (zt 47)), zr 49 (.ia 6 (zt 48) (zi 1)), zr 50 (.ldn 6 (zt 49))]
  rc88_10
  rc88_17))
  rc88_18)
  (.seq (.run [zr 82 (.bin .eql (zt 12) (zi 3)), za 81 (zt 82)])
  (.cond (zt 81)
  (.seq (.sem (.fork [zr 83 (.mv (zt 0)), zr 84 (.fa 5 (zt 3)), zr 85 (.ld (zt 84)), zr 86 (.ia 6 (zt 85) (zi 0)), zr 87 (.ldn 6 (zt 86)), zr 89 (.mv (zt 0)), zr 90 (.fa 5 (zt 3)), zr 91 (.ld (zt 90)), zr 92 (.ia 6 (zt 91) (zi 1)), zr 93 (.ldn 6 (zt 92))]
  rc88_29
  rc88_36))
  rc88_37)
  (.seq (.run [zr 113 (.bin .eql (zt 12) (zi 4)), za 112 (zt 113)])
  (.cond (zt 112)
  (.seq (.run [zr 114 (.mv (zt 0)), zr 115 (.fa 5 (zt 3)), zr 116 (.ld (zt 115)), zr 117 (.ia 6 (zt 116) (zi 0)), zr 118 (.ldn 6 (zt 117)), zc 119 88 [(zt 114), (zt 118)], zf 10 (.al [(.map none), (.map none), (.bool false)] 186), ze (.st 3 (zt 10) (zt 119))])
  (.seq (.run [zr 120 (.mv (zt 0)), zr 121 (.fa 1 (zt 10)), zr 122 (.ld (zt 121)), zr 123 (.fa 0 (zt 10)), zr 124 (.ld (zt 123)), zc 125 97 [(zt 120), (zt 122), (zt 124)]])
  (.seq (.run [zr 126 (.fa 0 (zt 10)), zr 127 (.ld (zt 126)), zr 128 (.fa 1 (zt 10)), zr 129 (.ld (zt 128)), zr 130 (.bld [(.map none), (.map none), (.bool false)] [(0, 1, (zt 127)), (1, 1, (zt 129)), (2, 1, (.const (.bool true)))]), ze (.st 3 (zt 4) (zt 130))])
  .ret)))
  .skip))))))))))
  rc88_38))
def ce88 : List (Nat × List Nat × List Nat) := [(4, [0, 1, 2, 3, 4, 5, 6, 7, 8, 9, 10, 11], [0, 0, 2, 6, 14, 0, 32, 96, 254, 511, 1023, 2047]), (7, [0, 1, 2, 3, 4, 6, 7, 8, 9, 10, 1000, 5, 1000, 11, 1000, 12, 13, 14, 15, 1001, 13, 12, 14, 15, 1001, 1000, 12, 1000, 11, 13, 14, 15, 1001, 13, 11, 14, 15, 1001, 13, 1000, 11, 12, 14, 15, 1001, 12, 11, 14, 15, 1001, 1000, 12, 1000, 5, 1000, 11, 13, 14, 15, 1001, 13, 11, 14, 15, 1001, 13, 5, 11, 14, 15, 1001, 13, 1000, 5, 1000, 11, 12, 14, 15, 1001, 12, 11, 14, 15, 1001, 12, 5, 11, 14, 15], [0, 0, 2, 6, 14, 31, 0, 0, 128, 384, 896, 2047, 0, 0, 16383, 32767]), (9, [0, 1, 2, 3, 4, 5, 8, 9, 10, 11, 12, 13, 16, 17, 6, 7, 14, 15, 18, 19, 20, 21, 22, 23], [0, 1, 0, 4, 0, 16, 60, 127, 0, 256, 0, 1024, 0, 4096, 15615, 32767, 0, 65536, 262143, 524287, 1048575, 2097151, 4194303, 8388607]), (11, [0, 1, 2, 3, 4, 6, 7, 8, 9, 10, 1000, 5, 1000, 11, 1000, 12, 13, 14, 15, 1001, 13, 12, 14, 15, 1001, 1000, 12, 1000, 11, 13, 14, 15, 1001, 13, 11, 14, 15, 1001, 13, 1000, 11, 12, 14, 15, 1001, 12, 11, 14, 15, 1001, 1000, 12, 1000, 5, 1000, 11, 13, 14, 15, 1001, 13, 11, 14, 15, 1001, 13, 5, 11, 14, 15, 1001, 13, 1000, 5, 1000, 11, 12, 14, 15, 1001, 12, 11, 14, 15, 1001, 12, 5, 11, 14, 15], [0, 0, 2, 6, 14, 31, 0, 0, 128, 384, 896, 2047, 0, 0, 16383, 32767]), (12, [0, 1, 2, 3, 5, 6, 7, 8, 10, 11, 4, 9, 12, 13, 14, 15, 16, 17], [0, 1, 0, 4, 15, 0, 32, 0, 128, 511, 0, 1024, 4095, 8191, 16383, 32767, 65535, 131071])]
def ro88 : List RO := [(.ldn 3 (zt 4))]
theorem ok88 : okFn Tryz.prog 88 132 ce88 = some (rc88, ro88) := by kernel_rfl
def rc89 : RC := (.seq (.run [za 4 (.const (.bool false))])
  (.seq (.run [zr 5 (.mv (zt 0)), zr 6 (.mv (zt 1)), zc 7 100 [(zt 5), (zt 6)], za 4 (zt 7)])
  .ret))
def ce89 : List (Nat × List Nat × List Nat) := []
def ro89 : List RO := [(.mv (zt 4))]
theorem ok89 : okFn Tryz.prog 89 8 ce89 = some (rc89, ro89) := by kernel_rfl
def rc90_0 : RC := (.seq (.run [zr 25 (.mv (zt 8)), za 6 (zt 25), za 7 (.const .nilIface)])
  .ret)
def rc90 : RC := (.seq (.run [za 6 (.const (.int .u64 0)), za 7 (.const .nilIface)])
  (.seq (.run [zr 11 (.mv (zt 0)), zr 12 (.mv (zt 1)), zr 13 (.mv (zt 2)), zc 14 101 [(zt 11), (zt 12), (zt 13)], zr 10 (.mv (zt 14)), zr 15 (.ext 0 (zt 10)), zr 16 (.ext 1 (zt 10)), za 8 (zt 15), za 9 (zt 16)])
  (.seq (.seq (.run [zr 17 (.mv (zt 9)), zr 18 (.eq true (.iface []) (zt 17) (.const .nilIface))])
  (.cond (zt 18)
  (.seq (.run [zr 19 (.mv (zt 8)), zr 20 (.mv (zt 0)), zr 21 (.mv (zt 1)), zr 22 (.mv (zt 2)), zr 23 (.mv (zt 9)), zc 24 102 [(.const (.string ⟨#[80, 97, 114, 115, 101, 85, 105, 110, 116]⟩)), (zt 20), (zt 21), (zt 22), (zt 23)], za 6 (zt 19), za 7 (zt 24)])
  .ret)
  .skip))
  rc90_0)))
def ce90 : List (Nat × List Nat × List Nat) := []
def ro90 : List RO := [(.mv (zt 6)), (.mv (zt 7))]
theorem ok90 : okFn Tryz.prog 90 26 ce90 = some (rc90, ro90) := by kernel_rfl
def rc91 : RC := (.seq (.run [za 4 (.const (.string ⟨#[]⟩))])
  (.seq (.run [zr 5 (.mv (zt 0)), zr 6 (.mv (zt 1)), zc 7 103 [(zt 5), (zt 6)], za 4 (zt 7)])
  .ret))
def ce91 : List (Nat × List Nat × List Nat) := []
def ro91 : List RO := [(.mv (zt 4))]
theorem ok91 : okFn Tryz.prog 91 8 ce91 = some (rc91, ro91) := by kernel_rfl
def rc92 : RC := (.seq (.run [za 4 (zi 0)])
  (.seq (.run [zr 5 (.mv (zt 0)), zr 6 (.mv (zt 1)), zc 7 104 [(zt 5), (zt 6)], za 4 (zt 7)])
  .ret))
def ce92 : List (Nat × List Nat × List Nat) := []
def ro92 : List RO := [(.mv (zt 4))]
theorem ok92 : okFn Tryz.prog 92 8 ce92 = some (rc92, ro92) := by kernel_rfl
def rc94_0 : RC := (.seq (.run [zr 40 (.mv (zt 7)), zr 41 (.bin .add (zi 1) (zt 40)), zr 42 (.sla 24 1 (zt 5) (some (zi 1)) (some (zt 41))), zr 43 (.b2s (zt 42)), za 4 (zt 43)])
  .ret)
def rc94_1 : RC := (.seq (.run [zr 26 (.mv (zt 6)), zc 27 107 [(zt 26)], za 7 (zt 27)])
  (.seq (.run [zr 28 (.mv (zt 7)), zr 29 (.bin .add (zi 1) (zt 28)), zr 30 (.sla 24 1 (zt 5) (some (zi 1)) (some (zt 29))), zr 31 (.mv (zt 6)), zc 32 108 [(zt 30), (zt 31)]])
  (.seq (.seq (.run [zr 33 (.mv (zt 0)), zr 34 (.bin .lss (zt 33) (zi 0))])
  (.cond (zt 34)
  (.seq (.run [zr 35 (.iaa 24 1 (zt 5) (zi 0)), ze (.st 1 (zt 35) (.const (.int .u8 45)))])
  (.seq (.run [zr 36 (.mv (zt 7)), zr 37 (.bin .add (zi 1) (zt 36)), zr 38 (.sla 24 1 (zt 5) none (some (zt 37))), zr 39 (.b2s (zt 38)), za 4 (zt 39)])
  .ret))
  .skip))
  rc94_0)))
def rc94_2 : RC := (.seq (.run [zf 5 (.al [(.int .u8 0), (.int .u8 0), (.int .u8 0), (.int .u8 0), (.int .u8 0), (.int .u8 0), (.int .u8 0), (.int .u8 0), (.int .u8 0), (.int .u8 0), (.int .u8 0), (.int .u8 0), (.int .u8 0), (.int .u8 0), (.int .u8 0), (.int .u8 0), (.int .u8 0), (.int .u8 0), (.int .u8 0), (.int .u8 0), (.int .u8 0), (.int .u8 0), (.int .u8 0), (.int .u8 0)] 199)])
  (.seq (.run [zr 20 (.mv (zt 0)), zr 21 (.cvi .u64 (zt 20)), za 6 (zt 21)])
  (.seq (.seq (.run [zr 22 (.mv (zt 0)), zr 23 (.bin .lss (zt 22) (zi 0))])
  (.cond (zt 23)
  (.run [zr 24 (.mv (zt 6)), zr 25 (.neg (zt 24)), za 6 (zt 25)])
  .skip))
  rc94_1)))
def rc94_3 : RC := (.seq (.run [zr 45 (.mv (zt 0)), zr 46 (.cvi .u64 (zt 45)), zr 47 (.mv (zt 1)), zr 48 (.mv (zt 0)), zr 49 (.bin .lss (zt 48) (zi 0)), zc 50 109 [(.const (.slice none 0 0)), (zt 46), (zt 47), (zt 49), (.const (.bool false))], zr 44 (.mv (zt 50)), zr 51 (.ext 0 (zt 44)), zr 52 (.ext 1 (zt 44)), za 8 (zt 51), za 9 (zt 52)])
  (.seq (.run [zr 53 (.mv (zt 9)), za 4 (zt 53)])
  .ret))
def rc94 : RC := (.seq (.run [za 4 (.const (.string ⟨#[]⟩))])
  (.seq (.seq (.run [zr 10 (.mv (zt 1)), zr 11 (.bin .eql (zt 10) (zi 10))])
  (.cond (zt 11)
  (.seq (.seq (.run [zr 12 (.mv (zt 0)), zr 13 (.bin .leq (zi 0) (zt 12)), zr 14 (.mv (zt 13)), zg 15 14 true (.mv (zt 0)), zg 16 14 true (.bin .lss (zt 15) (zi 100)), zr 17 (.pick (zt 14) (zt 16) (.const (.bool false)))])
  (.cond (zt 17)
  (.seq (.run [zr 18 (.mv (zt 0)), zc 19 106 [(zt 18)], za 4 (zt 19)])
  .ret)
  .skip))
  rc94_2)
  .skip))
  rc94_3))
def ce94 : List (Nat × List Nat × List Nat) := []
def ro94 : List RO := [(.mv (zt 4))]
theorem ok94 : okFn Tryz.prog 94 54 ce94 = some (rc94, ro94) := by kernel_rfl
def rc95_0 : RC := (.seq (.seq (.run [zr 33 (.mv (zt 7))])
  (.cond (zt 33)
  (.seq (.run [zr 34 (.ldn 6 (zt 8)), ze (.st 6 (zt 6) (zt 34))])
  (.exit 1))
  .skip))
  (.run [zr 35 (.ldn 6 (zt 6)), zr 36 (.ldn 6 (zt 8)), zf 37 (.bsl 76 6 2 [(.int .i64 0), (.int .u64 0), (.int .u64 0), (.int .u64 0), (.int .u64 0), (.slice none 0 0), (.int .i64 0), (.int .u64 0), (.int .u64 0), (.int .u64 0), (.int .u64 0), (.slice none 0 0)] [(0, 6, (zt 35)), (6, 6, (zt 36))]), zr 38 (.bld [(.int .i64 0), (.int .u64 0), (.int .u64 0), (.int .u64 0), (.int .u64 0), (.slice none 0 0)] [(0, 1, (zi 2)), (5, 1, (zt 37))]), ze (.st 6 (zt 6) (zt 38))]))
def rc95_1 : RC := (.seq (.block 1 (.seq (.run [zr 24 (.mv (zt 0)), zr 25 (.mv (zt 1)), zc 26 110 [(zt 24), (zt 25)], zr 23 (.mv (zt 26)), zr 27 (.ext 0 (zt 23)), zr 28 (.ext 1 (zt 23)), zf 8 (.al [(.int .i64 0), (.int .u64 0), (.int .u64 0), (.int .u64 0), (.int .u64 0), (.slice none 0 0)] 76), ze (.st 6 (zt 8) (zt 27)), za 9 (zt 28)])
  (.seq (.seq (.run [zr 29 (.mv (zt 9)), zr 30 (.eq true (.iface []) (zt 29) (.const .nilIface))])
  (.cond (zt 30)
  (.seq (.run [zr 31 (.bld [(.int .i64 0), (.int .u64 0), (.int .u64 0), (.int .u64 0), (.int .u64 0), (.slice none 0 0)] []), zr 32 (.mv (zt 9)), ze (.st 6 (zt 4) (zt 31)), za 5 (zt 32)])
  .ret)
  .skip))
  rc95_0)))
  (.run [za 7 (.const (.bool false))]))
def rc95_2 : RC := (.seq (.seq (.run [zr 11 (.mv (zt 0)), zc 12 86 [(zt 11)], zr 13 (.mv (zt 12)), zg 14 13 true (.mv (zt 0)), ⟨(some 15), (some (13, true)), (.c (.fn 96 [(zt 14), (.const (.int .u8 124))])), []⟩, zg 16 13 true (.not (zt 15)), zr 17 (.pick (zt 13) (zt 16) (.const (.bool false))), zr 18 (.mv (zt 17)), zg 19 18 true (.mv (zt 0)), ⟨(some 20), (some (18, true)), (.c (.fn 96 [(zt 19), (.const (.int .u8 41))])), []⟩, zg 21 18 true (.not (zt 20)), zr 22 (.pick (zt 18) (zt 21) (.const (.bool false)))])
  (.cond (zt 22)
  .skip
  (.exit 0)))
  rc95_1)
def rc95_3 : RC := (.seq (.run [zr 39 (.ldn 6 (zt 6)), ze (.st 6 (zt 4) (zt 39)), za 5 (.const .nilIface)])
  .ret)
def rc95 : RC := (.seq (.run [zf 4 (.al [(.int .i64 0), (.int .u64 0), (.int .u64 0), (.int .u64 0), (.int .u64 0), (.slice none 0 0)] 76), za 5 (.const .nilIface)])
  (.seq (.run [zr 10 (.bld [(.int .i64 0), (.int .u64 0), (.int .u64 0), (.int .u64 0), (.int .u64 0), (.slice none 0 0)] []), zf 6 (.al [(.int .i64 0), (.int .u64 0), (.int .u64 0), (.int .u64 0), (.int .u64 0), (.slice none 0 0)] 76), ze (.st 6 (zt 6) (zt 10))])
  (.seq (.seq (.run [za 7 (.const (.bool true))])
  (.block 0 (.loop rc95_2)))
  rc95_3)))
def ce95 : List (Nat × List Nat × List Nat) := []
def ro95 : List RO := [(.ldn 6 (zt 4)), (.mv (zt 5))]
theorem ok95 : okFn Tryz.prog 95 40 ce95 = some (rc95, ro95) := by kernel_rfl
def rc96 : RC := (.seq (.run [za 4 (.const (.bool false))])
  (.seq (.run [zr 5 (.mv (zt 0)), zc 6 86 [(zt 5)], zr 7 (.mv (zt 6)), zg 8 7 true (.mv (zt 0)), zg 9 7 true (.nck (zt 8)), zg 10 7 true (.fa 0 (zt 9)), zg 11 7 true (.ld (zt 10)), zg 12 7 true (.mv (zt 0)), zg 13 7 true (.nck (zt 12)), zg 14 7 true (.fa 1 (zt 13)), zg 15 7 true (.ld (zt 14)), zg 16 7 true (.ixs (zt 11) (zt 15)), zg 17 7 true (.mv (zt 1)), zg 18 7 true (.bin .eql (zt 16) (zt 17)), zr 19 (.pick (zt 7) (zt 18) (.const (.bool false))), za 4 (zt 19)])
  .ret))
def ce96 : List (Nat × List Nat × List Nat) := [(1, [0, 1, 2, 3, 4, 5, 6, 7, 8, 9, 10, 11, 12, 13, 14, 15], [0, 1, 3, 7, 15, 31, 63, 7, 135, 391, 903, 2047, 7, 8191, 16383, 32767])]
def ro96 : List RO := [(.mv (zt 4))]
theorem ok96 : okFn Tryz.prog 96 20 ce96 = some (rc96, ro96) := by kernel_rfl
def rc97_0 : RC := (.block 3 (.seq (.run [zr 18 (.ent (zt 15)), zr 19 (.ext 0 (zt 18)), za 7 (zt 19)])
  (.run [zr 20 (.mv (zt 0)), zr 21 (.nck (zt 20)), zr 22 (.fa 1 (zt 21)), zr 23 (.ld (zt 22)), zr 24 (.mv (zt 6)), zr 25 (.mv (zt 7)), zr 26 (.bld [(.int .i64 0), (.int .i64 0)] [(0, 1, (zt 24)), (1, 1, (zt 25))]), ze (.mup 2 (zt 23) (zt 26) (.const (.bool true)))])))
def rc97_1 : RC := (.seq (.run [⟨(some 16), none, (.nx (zt 15)), []⟩, zr 17 (.ext 0 (zt 16))])
  (.seq (.cond (zt 17)
  .skip
  (.exit 2))
  rc97_0))
def rc97_2 : RC := (.block 1 (.seq (.run [zr 12 (.ent (zt 9)), zr 13 (.ext 0 (zt 12)), za 6 (zt 13)])
  (.seq (.run [zr 14 (.mv (zt 2)), zf 15 (.rgm (zt 14))])
  (.block 2 (.loop rc97_1)))))
def rc97_3 : RC := (.seq (.run [⟨(some 10), none, (.nx (zt 9)), []⟩, zr 11 (.ext 0 (zt 10))])
  (.seq (.cond (zt 11)
  .skip
  (.exit 0))
  rc97_2))
def rc97 : RC := (.seq (.run [zr 8 (.mv (zt 1)), zf 9 (.rgm (zt 8))])
  (.block 0 (.loop rc97_3)))
def ce97 : List (Nat × List Nat × List Nat) := []
def ro97 : List RO := []
theorem ok97 : okFn Tryz.prog 97 27 ce97 = some (rc97, ro97) := by kernel_rfl
def rc98_0 : RC := (.block 1 (.seq (.run [zr 13 (.ent (zt 10)), zr 14 (.ext 0 (zt 13)), za 6 (zt 14)])
  (.run [zr 15 (.mv (zt 5)), zr 16 (.mv (zt 6)), ze (.mup 0 (zt 15) (zt 16) (.const (.bool true)))])))
def rc98_1 : RC := (.seq (.run [⟨(some 11), none, (.nx (zt 10)), []⟩, zr 12 (.ext 0 (zt 11))])
  (.seq (.cond (zt 12)
  .skip
  (.exit 0))
  rc98_0))
def rc98_2 : RC := (.block 3 (.seq (.run [zr 21 (.ent (zt 18)), zr 22 (.ext 0 (zt 21)), za 7 (zt 22)])
  (.run [zr 23 (.mv (zt 5)), zr 24 (.mv (zt 7)), ze (.mup 0 (zt 23) (zt 24) (.const (.bool true)))])))
def rc98_3 : RC := (.seq (.run [⟨(some 19), none, (.nx (zt 18)), []⟩, zr 20 (.ext 0 (zt 19))])
  (.seq (.cond (zt 20)
  .skip
  (.exit 2))
  rc98_2))
def rc98_4 : RC := (.seq (.run [zr 25 (.mv (zt 5)), za 4 (zt 25)])
  .ret)
def rc98_5 : RC := (.seq (.seq (.run [zr 17 (.mv (zt 1)), zf 18 (.rgm (zt 17))])
  (.block 2 (.loop rc98_3)))
  rc98_4)
def rc98 : RC := (.seq (.run [za 4 (.const (.map none))])
  (.seq (.run [zf 8 (.mkm), za 5 (zt 8)])
  (.seq (.seq (.run [zr 9 (.mv (zt 0)), zf 10 (.rgm (zt 9))])
  (.block 0 (.loop rc98_1)))
  rc98_5)))
def ce98 : List (Nat × List Nat × List Nat) := []
def ro98 : List RO := [(.mv (zt 4))]
theorem ok98 : okFn Tryz.prog 98 26 ce98 = some (rc98, ro98) := by kernel_rfl
def rc99_0 : RC := (.seq (.run [za 4 (.const (.map none))])
  .ret)
def rc99 : RC := (.seq (.run [za 4 (.const (.map none))])
  (.seq (.seq (.run [zr 5 (.mv (zt 0))])
  (.cond (zt 5)
  (.seq (.run [zr 6 (.mv (zt 1)), za 4 (zt 6)])
  .ret)
  .skip))
  rc99_0))
def ce99 : List (Nat × List Nat × List Nat) := []
def ro99 : List RO := [(.mv (zt 4))]
theorem ok99 : okFn Tryz.prog 99 7 ce99 = some (rc99, ro99) := by kernel_rfl
def rc100 : RC := (.seq (.run [za 4 (.const (.bool false))])
  (.seq (.run [zr 5 (.mv (zt 0)), zr 6 (.lens (zt 5)), zr 7 (.mv (zt 1)), zr 8 (.lens (zt 7)), zr 9 (.bin .geq (zt 6) (zt 8)), zr 10 (.mv (zt 9)), zg 11 10 true (.mv (zt 0)), zg 12 10 true (.mv (zt 1)), zg 13 10 true (.lens (zt 12)), zg 14 10 true (.sls (zt 11) none (some (zt 13))), zg 15 10 true (.mv (zt 1)), zg 16 10 true (.bin .eql (zt 14) (zt 15)), zr 17 (.pick (zt 10) (zt 16) (.const (.bool false))), za 4 (zt 17)])
  .ret))
def ce100 : List (Nat × List Nat × List Nat) := []
def ro100 : List RO := [(.mv (zt 4))]
theorem ok100 : okFn Tryz.prog 100 18 ce100 = some (rc100, ro100) := by kernel_rfl
def rc101_0 : RC := (.seq (.run [zr 144 (.mv (zt 13)), zr 145 (.mv (zt 1)), zr 146 (.cvi .u64 (zt 145)), zr 147 (.bin .mul (zt 144) (zt 146)), za 13 (zt 147)])
  (.seq (.run [zr 148 (.mv (zt 13)), zr 149 (.mv (zt 16)), zr 150 (.cvi .u64 (zt 149)), zr 151 (.bin .add (zt 148) (zt 150)), za 17 (zt 151)])
  (.seq (.seq (.run [zr 152 (.mv (zt 17)), zr 153 (.mv (zt 13)), zr 154 (.bin .lss (zt 152) (zt 153)), zr 155 (.mv (zt 154)), zg 156 155 false (.mv (zt 17)), zg 157 155 false (.mv (zt 11)), zg 158 155 false (.bin .gtr (zt 156) (zt 157)), zr 159 (.pick (zt 155) (.const (.bool true)) (zt 158))])
  (.cond (zt 159)
  (.seq (.run [zr 160 (.mv (zt 11)), zr 161 (.mki 204 (zi 1)), za 6 (zt 160), za 7 (zt 161)])
  .ret)
  .skip))
  (.run [zr 162 (.mv (zt 17)), za 13 (zt 162)]))))
def rc101_1 : RC := (.seq (.seq (.run [zr 139 (.mv (zt 13)), zr 140 (.mv (zt 10)), zr 141 (.bin .geq (zt 139) (zt 140))])
  (.cond (zt 141)
  (.seq (.run [zr 142 (.mv (zt 11)), zr 143 (.mki 204 (zi 1)), za 6 (zt 142), za 7 (zt 143)])
  .ret)
  .skip))
  rc101_0)
def rc101_2 : RC := (.seq (.seq (.run [zr 134 (.mv (zt 16)), zr 135 (.mv (zt 1)), zr 136 (.cvi .u8 (zt 135)), zr 137 (.bin .geq (zt 134) (zt 136))])
  (.cond (zt 137)
  (.seq (.run [zr 138 (.mki 204 (zi 2)), za 6 (.const (.int .u64 0)), za 7 (zt 138)])
  .ret)
  .skip))
  rc101_1)
def rc101_3 : RC := (.seq (.block 4 (.seq (.run [zr 103 (.ia 1 (zt 99) (zt 101)), zr 104 (.ld (zt 103)), za 15 (zt 104)])
  (.seq (.run [za 16 (.const (.int .u8 0))])
  (.seq (.block 5 (.seq (.run [zr 107 (.mv (zt 15)), zr 108 (.bin .eql (zt 107) (.const (.int .u8 95))), zr 109 (.mv (zt 108)), zg 110 109 true (.mv (zt 8)), zr 111 (.pick (zt 109) (zt 110) (.const (.bool false))), za 106 (zt 111)])
  (.cond (zt 106)
  (.seq (.run [za 12 (.const (.bool true))])
  (.exit 4))
  (.seq (.run [zr 113 (.mv (zt 15)), zr 114 (.bin .leq (.const (.int .u8 48)) (zt 113)), zr 115 (.mv (zt 114)), zg 116 115 true (.mv (zt 15)), zg 117 115 true (.bin .leq (zt 116) (.const (.int .u8 57))), zr 118 (.pick (zt 115) (zt 117) (.const (.bool false))), za 112 (zt 118)])
  (.cond (zt 112)
  (.run [zr 119 (.mv (zt 15)), zr 120 (.bin .sub (zt 119) (.const (.int .u8 48))), za 16 (zt 120)])
  (.seq (.run [zr 122 (.mv (zt 15)), zc 123 111 [(zt 122)], zr 124 (.bin .leq (.const (.int .u8 97)) (zt 123)), zr 125 (.mv (zt 124)), zg 126 125 true (.mv (zt 15)), ⟨(some 127), (some (125, true)), (.c (.fn 111 [(zt 126)])), []⟩, zg 128 125 true (.bin .leq (zt 127) (.const (.int .u8 122))), zr 129 (.pick (zt 125) (zt 128) (.const (.bool false))), za 121 (zt 129)])
  (.cond (zt 121)
  (.run [zr 130 (.mv (zt 15)), zc 131 111 [(zt 130)], zr 132 (.bin .sub (zt 131) (.const (.int .u8 97))), zr 133 (.bin .add (zt 132) (.const (.int .u8 10))), za 16 (zt 133)])
  (.seq (.run [zr 105 (.mki 204 (zi 2)), za 6 (.const (.int .u64 0)), za 7 (zt 105)])
  .ret))))))))
  rc101_2))))
  (.run [zr 163 (.bin .add (zt 101) (zi 1)), zr 101 (.mv (zt 163))]))
def rc101_4 : RC := (.seq (.run [zr 102 (.bin .lss (zt 101) (zt 100))])
  (.seq (.cond (zt 102)
  .skip
  (.exit 3))
  rc101_3))
def rc101_5 : RC := (.seq (.run [zr 171 (.mv (zt 13)), za 6 (zt 171), za 7 (.const .nilIface)])
  .ret)
def rc101_6 : RC := (.seq (.seq (.run [zr 164 (.mv (zt 12)), zr 165 (.mv (zt 164)), zg 166 165 true (.mv (zt 9)), ⟨(some 167), (some (165, true)), (.c (.fn 112 [(zt 166)])), []⟩, zg 168 165 true (.not (zt 167)), zr 169 (.pick (zt 165) (zt 168) (.const (.bool false)))])
  (.cond (zt 169)
  (.seq (.run [zr 170 (.mki 204 (zi 2)), za 6 (.const (.int .u64 0)), za 7 (zt 170)])
  .ret)
  .skip))
  rc101_5)
def rc101_7 : RC := (.seq (.run [zr 94 (.mv (zt 2)), zr 95 (.cvi .u64 (zt 94)), zr 96 (.bin .shl (.const (.int .u64 1)) (zt 95)), zr 97 (.bin .sub (zt 96) (.const (.int .u64 1))), za 11 (zt 97)])
  (.seq (.run [za 12 (.const (.bool false))])
  (.seq (.run [za 13 (.const (.int .u64 0))])
  (.seq (.seq (.run [zr 98 (.mv (zt 0)), zf 99 (.s2b 5 (zt 98)), zr 100 (.lenl (zt 99)), zr 101 (.mv (zi 0))])
  (.block 3 (.loop rc101_4)))
  rc101_6))))
def rc101_8 : RC := (.seq (.run [za 10 (.const (.int .u64 0))])
  (.seq (.seq (.run [zr 85 (.mv (zt 1))])
  (.block 2 (.seq (.run [zr 91 (.bin .eql (zt 85) (zi 10)), za 90 (zt 91)])
  (.cond (zt 90)
  (.run [za 10 (.const (.int .u64 1844674407370955162))])
  (.seq (.run [zr 93 (.bin .eql (zt 85) (zi 16)), za 92 (zt 93)])
  (.cond (zt 92)
  (.run [za 10 (.const (.int .u64 1152921504606846976))])
  (.run [zr 86 (.mv (zt 1)), zr 87 (.cvi .u64 (zt 86)), zr 88 (.bin .quo (.const (.int .u64 18446744073709551615)) (zt 87)), zr 89 (.bin .add (zt 88) (.const (.int .u64 1))), za 10 (zt 89)])))))))
  rc101_7))
def rc101_9 : RC := (.seq (.seq (.run [zr 76 (.mv (zt 2)), zr 77 (.bin .eql (zt 76) (zi 0))])
  (.cond (zt 77)
  (.run [za 2 (zi 64)])
  (.seq (.run [zr 78 (.mv (zt 2)), zr 79 (.bin .lss (zt 78) (zi 0)), zr 80 (.mv (zt 79)), zg 81 80 false (.mv (zt 2)), zg 82 80 false (.bin .gtr (zt 81) (zi 64)), zr 83 (.pick (zt 80) (.const (.bool true)) (zt 82))])
  (.cond (zt 83)
  (.seq (.run [zr 84 (.mki 204 (zi 4)), za 6 (.const (.int .u64 0)), za 7 (zt 84)])
  .ret)
  .skip))))
  rc101_8)
def rc101_10 : RC := (.seq (.run [zr 21 (.mv (zt 1)), zr 22 (.bin .eql (zt 21) (zi 0)), za 8 (zt 22)])
  (.seq (.run [zr 23 (.mv (zt 0)), za 9 (zt 23)])
  (.seq (.block 0 (.seq (.run [zr 26 (.mv (zt 1)), zr 27 (.bin .leq (zi 2) (zt 26)), zr 28 (.mv (zt 27)), zg 29 28 true (.mv (zt 1)), zg 30 28 true (.bin .leq (zt 29) (zi 36)), zr 31 (.pick (zt 28) (zt 30) (.const (.bool false))), za 25 (zt 31)])
  (.cond (zt 25)
  .skip
  (.seq (.run [zr 33 (.mv (zt 1)), zr 34 (.bin .eql (zt 33) (zi 0)), za 32 (zt 34)])
  (.cond (zt 32)
  (.seq (.run [za 1 (zi 10)])
  (.seq (.run [zr 35 (.mv (zt 0)), zr 36 (.ixs (zt 35) (zi 0)), zr 37 (.bin .eql (zt 36) (.const (.int .u8 48)))])
  (.cond (zt 37)
  (.block 1 (.seq (.run [zr 41 (.mv (zt 0)), zr 42 (.lens (zt 41)), zr 43 (.bin .geq (zt 42) (zi 3)), zr 44 (.mv (zt 43)), zg 45 44 true (.mv (zt 0)), zg 46 44 true (.ixs (zt 45) (zi 1)), ⟨(some 47), (some (44, true)), (.c (.fn 111 [(zt 46)])), []⟩, zg 48 44 true (.bin .eql (zt 47) (.const (.int .u8 98))), zr 49 (.pick (zt 44) (zt 48) (.const (.bool false))), za 40 (zt 49)])
  (.cond (zt 40)
  (.seq (.run [za 1 (zi 2)])
  (.run [zr 50 (.mv (zt 0)), zr 51 (.sls (zt 50) (some (zi 2)) none), za 0 (zt 51)]))
  (.seq (.run [zr 53 (.mv (zt 0)), zr 54 (.lens (zt 53)), zr 55 (.bin .geq (zt 54) (zi 3)), zr 56 (.mv (zt 55)), zg 57 56 true (.mv (zt 0)), zg 58 56 true (.ixs (zt 57) (zi 1)), ⟨(some 59), (some (56, true)), (.c (.fn 111 [(zt 58)])), []⟩, zg 60 56 true (.bin .eql (zt 59) (.const (.int .u8 111))), zr 61 (.pick (zt 56) (zt 60) (.const (.bool false))), za 52 (zt 61)])
  (.cond (zt 52)
  (.seq (.run [za 1 (zi 8)])
  (.run [zr 62 (.mv (zt 0)), zr 63 (.sls (zt 62) (some (zi 2)) none), za 0 (zt 63)]))
  (.seq (.run [zr 65 (.mv (zt 0)), zr 66 (.lens (zt 65)), zr 67 (.bin .geq (zt 66) (zi 3)), zr 68 (.mv (zt 67)), zg 69 68 true (.mv (zt 0)), zg 70 68 true (.ixs (zt 69) (zi 1)), ⟨(some 71), (some (68, true)), (.c (.fn 111 [(zt 70)])), []⟩, zg 72 68 true (.bin .eql (zt 71) (.const (.int .u8 120))), zr 73 (.pick (zt 68) (zt 72) (.const (.bool false))), za 64 (zt 73)])
  (.cond (zt 64)
  (.seq (.run [za 1 (zi 16)])
  (.run [zr 74 (.mv (zt 0)), zr 75 (.sls (zt 74) (some (zi 2)) none), za 0 (zt 75)]))
  (.seq (.run [za 1 (zi 8)])
  (.run [zr 38 (.mv (zt 0)), zr 39 (.sls (zt 38) (some (zi 1)) none), za 0 (zt 39)])))))))))
  .skip)))
  (.seq (.run [zr 24 (.mki 204 (zi 3)), za 6 (.const (.int .u64 0)), za 7 (zt 24)])
  .ret))))))
  rc101_9)))
def rc101 : RC := (.seq (.run [za 6 (.const (.int .u64 0)), za 7 (.const .nilIface)])
  (.seq (.seq (.run [zr 18 (.mv (zt 0)), zr 19 (.bin .eql (zt 18) (.const (.string ⟨#[]⟩)))])
  (.cond (zt 19)
  (.seq (.run [zr 20 (.mki 204 (zi 2)), za 6 (.const (.int .u64 0)), za 7 (zt 20)])
  .ret)
  .skip))
  rc101_10))
def ce101 : List (Nat × List Nat × List Nat) := []
def ro101 : List RO := [(.mv (zt 6)), (.mv (zt 7))]
theorem ok101 : okFn Tryz.prog 101 172 ce101 = some (rc101, ro101) := by kernel_rfl
def rc102_0 : RC := (.seq (.run [zr 42 (.mv (zt 4)), za 10 (zt 42)])
  .ret)
def rc102 : RC := (.seq (.run [za 10 (.const .nilIface)])
  (.seq (.seq (.run [zr 11 (.mv (zt 4))])
  (.block 0 (.seq (.run [zr 13 (.mki 204 (zi 2)), zr 14 (.ieq false [2, 3, 5, 6, 12, 21, 26, 39, 54, 70, 71, 85, 122, 129, 204, 206, 212, 235, 237, 238, 247, 251] (zt 11) (zt 13)), za 12 (zt 14)])
  (.cond (zt 12)
  (.seq (.run [zr 15 (.mv (zt 0)), zr 16 (.mv (zt 1)), zc 17 113 [(zt 15), (zt 16)], zr 18 (.mki 207 (zt 17)), za 10 (zt 18)])
  .ret)
  (.seq (.run [zr 20 (.mki 204 (zi 1)), zr 21 (.ieq false [2, 3, 5, 6, 12, 21, 26, 39, 54, 70, 71, 85, 122, 129, 204, 206, 212, 235, 237, 238, 247, 251] (zt 11) (zt 20)), za 19 (zt 21)])
  (.cond (zt 19)
  (.seq (.run [zr 22 (.mv (zt 0)), zr 23 (.mv (zt 1)), zc 24 114 [(zt 22), (zt 23)], zr 25 (.mki 207 (zt 24)), za 10 (zt 25)])
  .ret)
  (.seq (.run [zr 27 (.mki 204 (zi 3)), zr 28 (.ieq false [2, 3, 5, 6, 12, 21, 26, 39, 54, 70, 71, 85, 122, 129, 204, 206, 212, 235, 237, 238, 247, 251] (zt 11) (zt 27)), za 26 (zt 28)])
  (.cond (zt 26)
  (.seq (.run [zr 29 (.mv (zt 0)), zr 30 (.mv (zt 1)), zr 31 (.mv (zt 2)), zc 32 115 [(zt 29), (zt 30), (zt 31)], zr 33 (.mki 207 (zt 32)), za 10 (zt 33)])
  .ret)
  (.seq (.run [zr 35 (.mki 204 (zi 4)), zr 36 (.ieq false [2, 3, 5, 6, 12, 21, 26, 39, 54, 70, 71, 85, 122, 129, 204, 206, 212, 235, 237, 238, 247, 251] (zt 11) (zt 35)), za 34 (zt 36)])
  (.cond (zt 34)
  (.seq (.run [zr 37 (.mv (zt 0)), zr 38 (.mv (zt 1)), zr 39 (.mv (zt 3)), zc 40 116 [(zt 37), (zt 38), (zt 39)], zr 41 (.mki 207 (zt 40)), za 10 (zt 41)])
  .ret)
  .skip))))))))))
  rc102_0))
def ce102 : List (Nat × List Nat × List Nat) := []
def ro102 : List RO := [(.mv (zt 10))]
theorem ok102 : okFn Tryz.prog 102 43 ce102 = some (rc102, ro102) := by kernel_rfl
def rc103_0 : RC := (.seq (.run [zf 5 (.al [(.int .u8 0), (.int .u8 0), (.int .u8 0), (.int .u8 0), (.int .u8 0), (.int .u8 0), (.int .u8 0), (.int .u8 0), (.int .u8 0), (.int .u8 0), (.int .u8 0), (.int .u8 0), (.int .u8 0), (.int .u8 0), (.int .u8 0), (.int .u8 0), (.int .u8 0), (.int .u8 0), (.int .u8 0), (.int .u8 0), (.int .u8 0), (.int .u8 0), (.int .u8 0), (.int .u8 0)] 199)])
  (.seq (.run [zr 16 (.mv (zt 0)), zc 17 107 [(zt 16)], za 6 (zt 17)])
  (.seq (.run [zr 18 (.mv (zt 6)), zr 19 (.sla 24 1 (zt 5) none (some (zt 18))), zr 20 (.mv (zt 0)), zc 21 108 [(zt 19), (zt 20)]])
  (.seq (.run [zr 22 (.mv (zt 6)), zr 23 (.sla 24 1 (zt 5) none (some (zt 22))), zr 24 (.b2s (zt 23)), za 4 (zt 24)])
  .ret))))
def rc103_1 : RC := (.seq (.run [zr 26 (.mv (zt 0)), zr 27 (.mv (zt 1)), zc 28 109 [(.const (.slice none 0 0)), (zt 26), (zt 27), (.const (.bool false)), (.const (.bool false))], zr 25 (.mv (zt 28)), zr 29 (.ext 0 (zt 25)), zr 30 (.ext 1 (zt 25)), za 7 (zt 29), za 8 (zt 30)])
  (.seq (.run [zr 31 (.mv (zt 8)), za 4 (zt 31)])
  .ret))
def rc103 : RC := (.seq (.run [za 4 (.const (.string ⟨#[]⟩))])
  (.seq (.seq (.run [zr 9 (.mv (zt 1)), zr 10 (.bin .eql (zt 9) (zi 10))])
  (.cond (zt 10)
  (.seq (.seq (.run [zr 11 (.mv (zt 0)), zr 12 (.bin .lss (zt 11) (.const (.int .u64 100)))])
  (.cond (zt 12)
  (.seq (.run [zr 13 (.mv (zt 0)), zr 14 (.cvi .i64 (zt 13)), zc 15 106 [(zt 14)], za 4 (zt 15)])
  .ret)
  .skip))
  rc103_0)
  .skip))
  rc103_1))
def ce103 : List (Nat × List Nat × List Nat) := []
def ro103 : List RO := [(.mv (zt 4))]
theorem ok103 : okFn Tryz.prog 103 32 ce103 = some (rc103, ro103) := by kernel_rfl
def rc106_0 : RC := (.seq (.run [zr 9 (.mv (zt 0)), zr 10 (.bin .mul (zt 9) (zi 2)), zr 11 (.mv (zt 0)), zr 12 (.bin .mul (zt 11) (zi 2)), zr 13 (.bin .add (zt 12) (zi 2)), zr 14 (.sls (.const (.string ⟨#[48, 48, 48, 49, 48, 50, 48, 51, 48, 52, 48, 53, 48, 54, 48, 55, 48, 56, 48, 57, 49, 48, 49, 49, 49, 50, 49, 51, 49, 52, 49, 53, 49, 54, 49, 55, 49, 56, 49, 57, 50, 48, 50, 49, 50, 50, 50, 51, 50, 52, 50, 53, 50, 54, 50, 55, 50, 56, 50, 57, 51, 48, 51, 49, 51, 50, 51, 51, 51, 52, 51, 53, 51, 54, 51, 55, 51, 56, 51, 57, 52, 48, 52, 49, 52, 50, 52, 51, 52, 52, 52, 53, 52, 54, 52, 55, 52, 56, 52, 57, 53, 48, 53, 49, 53, 50, 53, 51, 53, 52, 53, 53, 53, 54, 53, 55, 53, 56, 53, 57, 54, 48, 54, 49, 54, 50, 54, 51, 54, 52, 54, 53, 54, 54, 54, 55, 54, 56, 54, 57, 55, 48, 55, 49, 55, 50, 55, 51, 55, 52, 55, 53, 55, 54, 55, 55, 55, 56, 55, 57, 56, 48, 56, 49, 56, 50, 56, 51, 56, 52, 56, 53, 56, 54, 56, 55, 56, 56, 56, 57, 57, 48, 57, 49, 57, 50, 57, 51, 57, 52, 57, 53, 57, 54, 57, 55, 57, 56, 57, 57]⟩)) (some (zt 10)) (some (zt 13))), za 2 (zt 14)])
  .ret)
def rc106 : RC := (.seq (.run [za 2 (.const (.string ⟨#[]⟩))])
  (.seq (.seq (.run [zr 3 (.mv (zt 0)), zr 4 (.bin .lss (zt 3) (zi 10))])
  (.cond (zt 4)
  (.seq (.run [zr 5 (.mv (zt 0)), zr 6 (.mv (zt 0)), zr 7 (.bin .add (zt 6) (zi 1)), zr 8 (.sls (.const (.string ⟨#[48, 49, 50, 51, 52, 53, 54, 55, 56, 57, 97, 98, 99, 100, 101, 102, 103, 104, 105, 106, 107, 108, 109, 110, 111, 112, 113, 114, 115, 116, 117, 118, 119, 120, 121, 122]⟩)) (some (zt 5)) (some (zt 7))), za 2 (zt 8)])
  .ret)
  .skip))
  rc106_0))
def ce106 : List (Nat × List Nat × List Nat) := []
def ro106 : List RO := [(.mv (zt 2))]
theorem ok106 : okFn Tryz.prog 106 15 ce106 = some (rc106, ro106) := by kernel_rfl
def rc107 : RC := (.seq (.run [za 2 (zi 0)])
  (.seq (.run [zr 4 (.mv (zt 0)), zc 5 118 [(zt 4)], zc 6 117 [(zt 5)], za 3 (zt 6)])
  (.seq (.run [zr 7 (.mv (zt 3)), zr 8 (.mv (zt 0)), zr 9 (.mv (zt 3)), zr 10 (.iaa 20 1 (.global 2) (zt 9)), zr 11 (.ld (zt 10)), zr 12 (.bin .geq (zt 8) (zt 11)), zc 13 119 [(zt 12)], zr 14 (.bin .add (zt 7) (zt 13)), za 2 (zt 14)])
  .ret)))
def ce107 : List (Nat × List Nat × List Nat) := []
def ro107 : List RO := [(.mv (zt 2))]
theorem ok107 : okFn Tryz.prog 107 15 ce107 = some (rc107, ro107) := by kernel_rfl
end Go.Proofs.YtjlicambfepfiaaGreatDoor.Ab

set_option maxHeartbeats 4000000
namespace Go.Proofs.YtjlicambfepfiaaGreatDoor.Ab
open Go Go.RowKit
def rc108_0 : RC := (.block 1 (.seq (.run [zr 21 (.mv (zt 1)), zr 22 (.bin .rem (zt 21) (.const (.int .u64 100000000))), zr 23 (.cvi .u32 (zt 22)), za 5 (zt 23)])
  (.seq (.run [zr 24 (.mv (zt 1)), zr 25 (.bin .quo (zt 24) (.const (.int .u64 100000000))), za 1 (zt 25)])
  (.seq (.run [zr 26 (.mv (zt 5)), zr 27 (.bin .quo (zt 26) (.const (.int .u32 10000))), zr 28 (.mv (zt 5)), zr 29 (.bin .rem (zt 28) (.const (.int .u32 10000))), za 6 (zt 27), za 7 (zt 29)])
  (.seq (.run [zr 30 (.mv (zt 7)), zr 31 (.bin .quo (zt 30) (.const (.int .u32 100))), zr 32 (.bin .mul (zt 31) (.const (.int .u32 2))), zr 33 (.mv (zt 7)), zr 34 (.bin .rem (zt 33) (.const (.int .u32 100))), zr 35 (.bin .mul (zt 34) (.const (.int .u32 2))), za 8 (zt 32), za 9 (zt 35)])
  (.seq (.run [zr 36 (.mv (zt 6)), zr 37 (.bin .quo (zt 36) (.const (.int .u32 100))), zr 38 (.bin .mul (zt 37) (.const (.int .u32 2))), zr 39 (.mv (zt 6)), zr 40 (.bin .rem (zt 39) (.const (.int .u32 100))), zr 41 (.bin .mul (zt 40) (.const (.int .u32 2))), za 10 (zt 38), za 11 (zt 41)])
  (.seq (.run [zr 42 (.mv (zt 0)), zr 43 (.mv (zt 4)), zr 44 (.bin .sub (zt 43) (zi 1)), zr 45 (.mv (zt 0)), zr 46 (.mv (zt 4)), zr 47 (.bin .sub (zt 46) (zi 2)), zr 48 (.mv (zt 9)), zr 49 (.bin .add (zt 48) (.const (.int .u32 1))), zr 50 (.ixs (.const (.string ⟨#[48, 48, 48, 49, 48, 50, 48, 51, 48, 52, 48, 53, 48, 54, 48, 55, 48, 56, 48, 57, 49, 48, 49, 49, 49, 50, 49, 51, 49, 52, 49, 53, 49, 54, 49, 55, 49, 56, 49, 57, 50, 48, 50, 49, 50, 50, 50, 51, 50, 52, 50, 53, 50, 54, 50, 55, 50, 56, 50, 57, 51, 48, 51, 49, 51, 50, 51, 51, 51, 52, 51, 53, 51, 54, 51, 55, 51, 56, 51, 57, 52, 48, 52, 49, 52, 50, 52, 51, 52, 52, 52, 53, 52, 54, 52, 55, 52, 56, 52, 57, 53, 48, 53, 49, 53, 50, 53, 51, 53, 52, 53, 53, 53, 54, 53, 55, 53, 56, 53, 57, 54, 48, 54, 49, 54, 50, 54, 51, 54, 52, 54, 53, 54, 54, 54, 55, 54, 56, 54, 57, 55, 48, 55, 49, 55, 50, 55, 51, 55, 52, 55, 53, 55, 54, 55, 55, 55, 56, 55, 57, 56, 48, 56, 49, 56, 50, 56, 51, 56, 52, 56, 53, 56, 54, 56, 55, 56, 56, 56, 57, 57, 48, 57, 49, 57, 50, 57, 51, 57, 52, 57, 53, 57, 54, 57, 55, 57, 56, 57, 57]⟩)) (zt 49)), zr 51 (.mv (zt 9)), zr 52 (.ixs (.const (.string ⟨#[48, 48, 48, 49, 48, 50, 48, 51, 48, 52, 48, 53, 48, 54, 48, 55, 48, 56, 48, 57, 49, 48, 49, 49, 49, 50, 49, 51, 49, 52, 49, 53, 49, 54, 49, 55, 49, 56, 49, 57, 50, 48, 50, 49, 50, 50, 50, 51, 50, 52, 50, 53, 50, 54, 50, 55, 50, 56, 50, 57, 51, 48, 51, 49, 51, 50, 51, 51, 51, 52, 51, 53, 51, 54, 51, 55, 51, 56, 51, 57, 52, 48, 52, 49, 52, 50, 52, 51, 52, 52, 52, 53, 52, 54, 52, 55, 52, 56, 52, 57, 53, 48, 53, 49, 53, 50, 53, 51, 53, 52, 53, 53, 53, 54, 53, 55, 53, 56, 53, 57, 54, 48, 54, 49, 54, 50, 54, 51, 54, 52, 54, 53, 54, 54, 54, 55, 54, 56, 54, 57, 55, 48, 55, 49, 55, 50, 55, 51, 55, 52, 55, 53, 55, 54, 55, 55, 55, 56, 55, 57, 56, 48, 56, 49, 56, 50, 56, 51, 56, 52, 56, 53, 56, 54, 56, 55, 56, 56, 56, 57, 57, 48, 57, 49, 57, 50, 57, 51, 57, 52, 57, 53, 57, 54, 57, 55, 57, 56, 57, 57]⟩)) (zt 51)), zr 53 (.ia 1 (zt 42) (zt 44)), ze (.st 1 (zt 53) (zt 50)), zr 54 (.ia 1 (zt 45) (zt 47)), ze (.st 1 (zt 54) (zt 52))])
  (.seq (.run [zr 55 (.mv (zt 0)), zr 56 (.mv (zt 4)), zr 57 (.bin .sub (zt 56) (zi 3)), zr 58 (.mv (zt 0)), zr 59 (.mv (zt 4)), zr 60 (.bin .sub (zt 59) (zi 4)), zr 61 (.mv (zt 8)), zr 62 (.bin .add (zt 61) (.const (.int .u32 1))), zr 63 (.ixs (.const (.string ⟨#[48, 48, 48, 49, 48, 50, 48, 51, 48, 52, 48, 53, 48, 54, 48, 55, 48, 56, 48, 57, 49, 48, 49, 49, 49, 50, 49, 51, 49, 52, 49, 53, 49, 54, 49, 55, 49, 56, 49, 57, 50, 48, 50, 49, 50, 50, 50, 51, 50, 52, 50, 53, 50, 54, 50, 55, 50, 56, 50, 57, 51, 48, 51, 49, 51, 50, 51, 51, 51, 52, 51, 53, 51, 54, 51, 55, 51, 56, 51, 57, 52, 48, 52, 49, 52, 50, 52, 51, 52, 52, 52, 53, 52, 54, 52, 55, 52, 56, 52, 57, 53, 48, 53, 49, 53, 50, 53, 51, 53, 52, 53, 53, 53, 54, 53, 55, 53, 56, 53, 57, 54, 48, 54, 49, 54, 50, 54, 51, 54, 52, 54, 53, 54, 54, 54, 55, 54, 56, 54, 57, 55, 48, 55, 49, 55, 50, 55, 51, 55, 52, 55, 53, 55, 54, 55, 55, 55, 56, 55, 57, 56, 48, 56, 49, 56, 50, 56, 51, 56, 52, 56, 53, 56, 54, 56, 55, 56, 56, 56, 57, 57, 48, 57, 49, 57, 50, 57, 51, 57, 52, 57, 53, 57, 54, 57, 55, 57, 56, 57, 57]⟩)) (zt 62)), zr 64 (.mv (zt 8)), zr 65 (.ixs (.const (.string ⟨#[48, 48, 48, 49, 48, 50, 48, 51, 48, 52, 48, 53, 48, 54, 48, 55, 48, 56, 48, 57, 49, 48, 49, 49, 49, 50, 49, 51, 49, 52, 49, 53, 49, 54, 49, 55, 49, 56, 49, 57, 50, 48, 50, 49, 50, 50, 50, 51, 50, 52, 50, 53, 50, 54, 50, 55, 50, 56, 50, 57, 51, 48, 51, 49, 51, 50, 51, 51, 51, 52, 51, 53, 51, 54, 51, 55, 51, 56, 51, 57, 52, 48, 52, 49, 52, 50, 52, 51, 52, 52, 52, 53, 52, 54, 52, 55, 52, 56, 52, 57, 53, 48, 53, 49, 53, 50, 53, 51, 53, 52, 53, 53, 53, 54, 53, 55, 53, 56, 53, 57, 54, 48, 54, 49, 54, 50, 54, 51, 54, 52, 54, 53, 54, 54, 54, 55, 54, 56, 54, 57, 55, 48, 55, 49, 55, 50, 55, 51, 55, 52, 55, 53, 55, 54, 55, 55, 55, 56, 55, 57, 56, 48, 56, 49, 56, 50, 56, 51, 56, 52, 56, 53, 56, 54, 56, 55, 56, 56, 56, 57, 57, 48, 57, 49, 57, 50, 57, 51, 57, 52, 57, 53, 57, 54, 57, 55, 57, 56, 57, 57]⟩)) (zt 64)), zr 66 (.ia 1 (zt 55) (zt 57)), ze (.st 1 (zt 66) (zt 63)), zr 67 (.ia 1 (zt 58) (zt 60)), ze (.st 1 (zt 67) (zt 65))])
  (.seq (.run [zr 68 (.mv (zt 0)), zr 69 (.mv (zt 4)), zr 70 (.bin .sub (zt 69) (zi 5)), zr 71 (.mv (zt 0)), zr 72 (.mv (zt 4)), zr 73 (.bin .sub (zt 72) (zi 6)), zr 74 (.mv (zt 11)), zr 75 (.bin .add (zt 74) (.const (.int .u32 1))), zr 76 (.ixs (.const (.string ⟨#[48, 48, 48, 49, 48, 50, 48, 51, 48, 52, 48, 53, 48, 54, 48, 55, 48, 56, 48, 57, 49, 48, 49, 49, 49, 50, 49, 51, 49, 52, 49, 53, 49, 54, 49, 55, 49, 56, 49, 57, 50, 48, 50, 49, 50, 50, 50, 51, 50, 52, 50, 53, 50, 54, 50, 55, 50, 56, 50, 57, 51, 48, 51, 49, 51, 50, 51, 51, 51, 52, 51, 53, 51, 54, 51, 55, 51, 56, 51, 57, 52, 48, 52, 49, 52, 50, 52, 51, 52, 52, 52, 53, 52, 54, 52, 55, 52, 56, 52, 57, 53, 48, 53, 49, 53, 50, 53, 51, 53, 52, 53, 53, 53, 54, 53, 55, 53, 56, 53, 57, 54, 48, 54, 49, 54, 50, 54, 51, 54, 52, 54, 53, 54, 54, 54, 55, 54, 56, 54, 57, 55, 48, 55, 49, 55, 50, 55, 51, 55, 52, 55, 53, 55, 54, 55, 55, 55, 56, 55, 57, 56, 48, 56, 49, 56, 50, 56, 51, 56, 52, 56, 53, 56, 54, 56, 55, 56, 56, 56, 57, 57, 48, 57, 49, 57, 50, 57, 51, 57, 52, 57, 53, 57, 54, 57, 55, 57, 56, 57, 57]⟩)) (zt 75)), zr 77 (.mv (zt 11)), zr 78 (.ixs (.const (.string ⟨#[48, 48, 48, 49, 48, 50, 48, 51, 48, 52, 48, 53, 48, 54, 48, 55, 48, 56, 48, 57, 49, 48, 49, 49, 49, 50, 49, 51, 49, 52, 49, 53, 49, 54, 49, 55, 49, 56, 49, 57, 50, 48, 50, 49, 50, 50, 50, 51, 50, 52, 50, 53, 50, 54, 50, 55, 50, 56, 50, 57, 51, 48, 51, 49, 51, 50, 51, 51, 51, 52, 51, 53, 51, 54, 51, 55, 51, 56, 51, 57, 52, 48, 52, 49, 52, 50, 52, 51, 52, 52, 52, 53, 52, 54, 52, 55, 52, 56, 52, 57, 53, 48, 53, 49, 53, 50, 53, 51, 53, 52, 53, 53, 53, 54, 53, 55, 53, 56, 53, 57, 54, 48, 54, 49, 54, 50, 54, 51, 54, 52, 54, 53, 54, 54, 54, 55, 54, 56, 54, 57, 55, 48, 55, 49, 55, 50, 55, 51, 55, 52, 55, 53, 55, 54, 55, 55, 55, 56, 55, 57, 56, 48, 56, 49, 56, 50, 56, 51, 56, 52, 56, 53, 56, 54, 56, 55, 56, 56, 56, 57, 57, 48, 57, 49, 57, 50, 57, 51, 57, 52, 57, 53, 57, 54, 57, 55, 57, 56, 57, 57]⟩)) (zt 77)), zr 79 (.ia 1 (zt 68) (zt 70)), ze (.st 1 (zt 79) (zt 76)), zr 80 (.ia 1 (zt 71) (zt 73)), ze (.st 1 (zt 80) (zt 78))])
  (.seq (.run [zr 81 (.mv (zt 0)), zr 82 (.mv (zt 4)), zr 83 (.bin .sub (zt 82) (zi 7)), zr 84 (.mv (zt 0)), zr 85 (.mv (zt 4)), zr 86 (.bin .sub (zt 85) (zi 8)), zr 87 (.mv (zt 10)), zr 88 (.bin .add (zt 87) (.const (.int .u32 1))), zr 89 (.ixs (.const (.string ⟨#[48, 48, 48, 49, 48, 50, 48, 51, 48, 52, 48, 53, 48, 54, 48, 55, 48, 56, 48, 57, 49, 48, 49, 49, 49, 50, 49, 51, 49, 52, 49, 53, 49, 54, 49, 55, 49, 56, 49, 57, 50, 48, 50, 49, 50, 50, 50, 51, 50, 52, 50, 53, 50, 54, 50, 55, 50, 56, 50, 57, 51, 48, 51, 49, 51, 50, 51, 51, 51, 52, 51, 53, 51, 54, 51, 55, 51, 56, 51, 57, 52, 48, 52, 49, 52, 50, 52, 51, 52, 52, 52, 53, 52, 54, 52, 55, 52, 56, 52, 57, 53, 48, 53, 49, 53, 50, 53, 51, 53, 52, 53, 53, 53, 54, 53, 55, 53, 56, 53, 57, 54, 48, 54, 49, 54, 50, 54, 51, 54, 52, 54, 53, 54, 54, 54, 55, 54, 56, 54, 57, 55, 48, 55, 49, 55, 50, 55, 51, 55, 52, 55, 53, 55, 54, 55, 55, 55, 56, 55, 57, 56, 48, 56, 49, 56, 50, 56, 51, 56, 52, 56, 53, 56, 54, 56, 55, 56, 56, 56, 57, 57, 48, 57, 49, 57, 50, 57, 51, 57, 52, 57, 53, 57, 54, 57, 55, 57, 56, 57, 57]⟩)) (zt 88)), zr 90 (.mv (zt 10)), zr 91 (.ixs (.const (.string ⟨#[48, 48, 48, 49, 48, 50, 48, 51, 48, 52, 48, 53, 48, 54, 48, 55, 48, 56, 48, 57, 49, 48, 49, 49, 49, 50, 49, 51, 49, 52, 49, 53, 49, 54, 49, 55, 49, 56, 49, 57, 50, 48, 50, 49, 50, 50, 50, 51, 50, 52, 50, 53, 50, 54, 50, 55, 50, 56, 50, 57, 51, 48, 51, 49, 51, 50, 51, 51, 51, 52, 51, 53, 51, 54, 51, 55, 51, 56, 51, 57, 52, 48, 52, 49, 52, 50, 52, 51, 52, 52, 52, 53, 52, 54, 52, 55, 52, 56, 52, 57, 53, 48, 53, 49, 53, 50, 53, 51, 53, 52, 53, 53, 53, 54, 53, 55, 53, 56, 53, 57, 54, 48, 54, 49, 54, 50, 54, 51, 54, 52, 54, 53, 54, 54, 54, 55, 54, 56, 54, 57, 55, 48, 55, 49, 55, 50, 55, 51, 55, 52, 55, 53, 55, 54, 55, 55, 55, 56, 55, 57, 56, 48, 56, 49, 56, 50, 56, 51, 56, 52, 56, 53, 56, 54, 56, 55, 56, 56, 56, 57, 57, 48, 57, 49, 57, 50, 57, 51, 57, 52, 57, 53, 57, 54, 57, 55, 57, 56, 57, 57]⟩)) (zt 90)), zr 92 (.ia 1 (zt 81) (zt 83)), ze (.st 1 (zt 92) (zt 89)), zr 93 (.ia 1 (zt 84) (zt 86)), ze (.st 1 (zt 93) (zt 91))])
  (.run [zr 94 (.mv (zt 4)), zr 95 (.bin .sub (zt 94) (zi 8)), za 4 (zt 95)])))))))))))
def rc108_1 : RC := (.seq (.seq (.run [zr 19 (.mv (zt 4)), zr 20 (.bin .geq (zt 19) (zi 8))])
  (.cond (zt 20)
  .skip
  (.exit 0)))
  rc108_0)
def rc108_2 : RC := (.seq (.run [zr 160 (.mv (zt 4)), zr 161 (.bin .gtr (zt 160) (zi 0))])
  (.cond (zt 161)
  (.run [zr 162 (.mv (zt 0)), zr 163 (.mv (zt 12)), zr 164 (.bin .add (.const (.int .u32 48)) (zt 163)), zr 165 (.cvi .u8 (zt 164)), zr 166 (.ia 1 (zt 162) (zi 0)), ze (.st 1 (zt 166) (zt 165))])
  .skip))
def rc108_3 : RC := (.seq (.seq (.run [zr 138 (.mv (zt 4)), zr 139 (.bin .geq (zt 138) (zi 2))])
  (.cond (zt 139)
  (.seq (.run [zr 140 (.mv (zt 12)), zr 141 (.bin .rem (zt 140) (.const (.int .u32 100))), zr 142 (.bin .mul (zt 141) (.const (.int .u32 2))), za 16 (zt 142)])
  (.seq (.run [zr 143 (.mv (zt 12)), zr 144 (.bin .quo (zt 143) (.const (.int .u32 100))), za 12 (zt 144)])
  (.seq (.run [zr 145 (.mv (zt 0)), zr 146 (.mv (zt 4)), zr 147 (.bin .sub (zt 146) (zi 1)), zr 148 (.mv (zt 0)), zr 149 (.mv (zt 4)), zr 150 (.bin .sub (zt 149) (zi 2)), zr 151 (.mv (zt 16)), zr 152 (.bin .add (zt 151) (.const (.int .u32 1))), zr 153 (.ixs (.const (.string ⟨#[48, 48, 48, 49, 48, 50, 48, 51, 48, 52, 48, 53, 48, 54, 48, 55, 48, 56, 48, 57, 49, 48, 49, 49, 49, 50, 49, 51, 49, 52, 49, 53, 49, 54, 49, 55, 49, 56, 49, 57, 50, 48, 50, 49, 50, 50, 50, 51, 50, 52, 50, 53, 50, 54, 50, 55, 50, 56, 50, 57, 51, 48, 51, 49, 51, 50, 51, 51, 51, 52, 51, 53, 51, 54, 51, 55, 51, 56, 51, 57, 52, 48, 52, 49, 52, 50, 52, 51, 52, 52, 52, 53, 52, 54, 52, 55, 52, 56, 52, 57, 53, 48, 53, 49, 53, 50, 53, 51, 53, 52, 53, 53, 53, 54, 53, 55, 53, 56, 53, 57, 54, 48, 54, 49, 54, 50, 54, 51, 54, 52, 54, 53, 54, 54, 54, 55, 54, 56, 54, 57, 55, 48, 55, 49, 55, 50, 55, 51, 55, 52, 55, 53, 55, 54, 55, 55, 55, 56, 55, 57, 56, 48, 56, 49, 56, 50, 56, 51, 56, 52, 56, 53, 56, 54, 56, 55, 56, 56, 56, 57, 57, 48, 57, 49, 57, 50, 57, 51, 57, 52, 57, 53, 57, 54, 57, 55, 57, 56, 57, 57]⟩)) (zt 152)), zr 154 (.mv (zt 16)), zr 155 (.ixs (.const (.string ⟨#[48, 48, 48, 49, 48, 50, 48, 51, 48, 52, 48, 53, 48, 54, 48, 55, 48, 56, 48, 57, 49, 48, 49, 49, 49, 50, 49, 51, 49, 52, 49, 53, 49, 54, 49, 55, 49, 56, 49, 57, 50, 48, 50, 49, 50, 50, 50, 51, 50, 52, 50, 53, 50, 54, 50, 55, 50, 56, 50, 57, 51, 48, 51, 49, 51, 50, 51, 51, 51, 52, 51, 53, 51, 54, 51, 55, 51, 56, 51, 57, 52, 48, 52, 49, 52, 50, 52, 51, 52, 52, 52, 53, 52, 54, 52, 55, 52, 56, 52, 57, 53, 48, 53, 49, 53, 50, 53, 51, 53, 52, 53, 53, 53, 54, 53, 55, 53, 56, 53, 57, 54, 48, 54, 49, 54, 50, 54, 51, 54, 52, 54, 53, 54, 54, 54, 55, 54, 56, 54, 57, 55, 48, 55, 49, 55, 50, 55, 51, 55, 52, 55, 53, 55, 54, 55, 55, 55, 56, 55, 57, 56, 48, 56, 49, 56, 50, 56, 51, 56, 52, 56, 53, 56, 54, 56, 55, 56, 56, 56, 57, 57, 48, 57, 49, 57, 50, 57, 51, 57, 52, 57, 53, 57, 54, 57, 55, 57, 56, 57, 57]⟩)) (zt 154)), zr 156 (.ia 1 (zt 145) (zt 147)), ze (.st 1 (zt 156) (zt 153)), zr 157 (.ia 1 (zt 148) (zt 150)), ze (.st 1 (zt 157) (zt 155))])
  (.run [zr 158 (.mv (zt 4)), zr 159 (.bin .sub (zt 158) (zi 2)), za 4 (zt 159)]))))
  .skip))
  rc108_2)
def rc108_4 : RC := (.seq (.run [zr 96 (.mv (zt 1)), zr 97 (.cvi .u32 (zt 96)), za 12 (zt 97)])
  (.seq (.seq (.run [zr 98 (.mv (zt 4)), zr 99 (.bin .geq (zt 98) (zi 4))])
  (.cond (zt 99)
  (.seq (.run [zr 100 (.mv (zt 12)), zr 101 (.bin .rem (zt 100) (.const (.int .u32 10000))), za 13 (zt 101)])
  (.seq (.run [zr 102 (.mv (zt 12)), zr 103 (.bin .quo (zt 102) (.const (.int .u32 10000))), za 12 (zt 103)])
  (.seq (.run [zr 104 (.mv (zt 13)), zr 105 (.bin .quo (zt 104) (.const (.int .u32 100))), zr 106 (.bin .mul (zt 105) (.const (.int .u32 2))), zr 107 (.mv (zt 13)), zr 108 (.bin .rem (zt 107) (.const (.int .u32 100))), zr 109 (.bin .mul (zt 108) (.const (.int .u32 2))), za 14 (zt 106), za 15 (zt 109)])
  (.seq (.run [zr 110 (.mv (zt 0)), zr 111 (.mv (zt 4)), zr 112 (.bin .sub (zt 111) (zi 1)), zr 113 (.mv (zt 0)), zr 114 (.mv (zt 4)), zr 115 (.bin .sub (zt 114) (zi 2)), zr 116 (.mv (zt 15)), zr 117 (.bin .add (zt 116) (.const (.int .u32 1))), zr 118 (.ixs (.const (.string ⟨#[48, 48, 48, 49, 48, 50, 48, 51, 48, 52, 48, 53, 48, 54, 48, 55, 48, 56, 48, 57, 49, 48, 49, 49, 49, 50, 49, 51, 49, 52, 49, 53, 49, 54, 49, 55, 49, 56, 49, 57, 50, 48, 50, 49, 50, 50, 50, 51, 50, 52, 50, 53, 50, 54, 50, 55, 50, 56, 50, 57, 51, 48, 51, 49, 51, 50, 51, 51, 51, 52, 51, 53, 51, 54, 51, 55, 51, 56, 51, 57, 52, 48, 52, 49, 52, 50, 52, 51, 52, 52, 52, 53, 52, 54, 52, 55, 52, 56, 52, 57, 53, 48, 53, 49, 53, 50, 53, 51, 53, 52, 53, 53, 53, 54, 53, 55, 53, 56, 53, 57, 54, 48, 54, 49, 54, 50, 54, 51, 54, 52, 54, 53, 54, 54, 54, 55, 54, 56, 54, 57, 55, 48, 55, 49, 55, 50, 55, 51, 55, 52, 55, 53, 55, 54, 55, 55, 55, 56, 55, 57, 56, 48, 56, 49, 56, 50, 56, 51, 56, 52, 56, 53, 56, 54, 56, 55, 56, 56, 56, 57, 57, 48, 57, 49, 57, 50, 57, 51, 57, 52, 57, 53, 57, 54, 57, 55, 57, 56, 57, 57]⟩)) (zt 117)), zr 119 (.mv (zt 15)), zr 120 (.ixs (.const (.string ⟨#[48, 48, 48, 49, 48, 50, 48, 51, 48, 52, 48, 53, 48, 54, 48, 55, 48, 56, 48, 57, 49, 48, 49, 49, 49, 50, 49, 51, 49, 52, 49, 53, 49, 54, 49, 55, 49, 56, 49, 57, 50, 48, 50, 49, 50, 50, 50, 51, 50, 52, 50, 53, 50, 54, 50, 55, 50, 56, 50, 57, 51, 48, 51, 49, 51, 50, 51, 51, 51, 52, 51, 53, 51, 54, 51, 55, 51, 56, 51, 57, 52, 48, 52, 49, 52, 50, 52, 51, 52, 52, 52, 53, 52, 54, 52, 55, 52, 56, 52, 57, 53, 48, 53, 49, 53, 50, 53, 51, 53, 52, 53, 53, 53, 54, 53, 55, 53, 56, 53, 57, 54, 48, 54, 49, 54, 50, 54, 51, 54, 52, 54, 53, 54, 54, 54, 55, 54, 56, 54, 57, 55, 48, 55, 49, 55, 50, 55, 51, 55, 52, 55, 53, 55, 54, 55, 55, 55, 56, 55, 57, 56, 48, 56, 49, 56, 50, 56, 51, 56, 52, 56, 53, 56, 54, 56, 55, 56, 56, 56, 57, 57, 48, 57, 49, 57, 50, 57, 51, 57, 52, 57, 53, 57, 54, 57, 55, 57, 56, 57, 57]⟩)) (zt 119)), zr 121 (.ia 1 (zt 110) (zt 112)), ze (.st 1 (zt 121) (zt 118)), zr 122 (.ia 1 (zt 113) (zt 115)), ze (.st 1 (zt 122) (zt 120))])
  (.seq (.run [zr 123 (.mv (zt 0)), zr 124 (.mv (zt 4)), zr 125 (.bin .sub (zt 124) (zi 3)), zr 126 (.mv (zt 0)), zr 127 (.mv (zt 4)), zr 128 (.bin .sub (zt 127) (zi 4)), zr 129 (.mv (zt 14)), zr 130 (.bin .add (zt 129) (.const (.int .u32 1))), zr 131 (.ixs (.const (.string ⟨#[48, 48, 48, 49, 48, 50, 48, 51, 48, 52, 48, 53, 48, 54, 48, 55, 48, 56, 48, 57, 49, 48, 49, 49, 49, 50, 49, 51, 49, 52, 49, 53, 49, 54, 49, 55, 49, 56, 49, 57, 50, 48, 50, 49, 50, 50, 50, 51, 50, 52, 50, 53, 50, 54, 50, 55, 50, 56, 50, 57, 51, 48, 51, 49, 51, 50, 51, 51, 51, 52, 51, 53, 51, 54, 51, 55, 51, 56, 51, 57, 52, 48, 52, 49, 52, 50, 52, 51, 52, 52, 52, 53, 52, 54, 52, 55, 52, 56, 52, 57, 53, 48, 53, 49, 53, 50, 53, 51, 53, 52, 53, 53, 53, 54, 53, 55, 53, 56, 53, 57, 54, 48, 54, 49, 54, 50, 54, 51, 54, 52, 54, 53, 54, 54, 54, 55, 54, 56, 54, 57, 55, 48, 55, 49, 55, 50, 55, 51, 55, 52, 55, 53, 55, 54, 55, 55, 55, 56, 55, 57, 56, 48, 56, 49, 56, 50, 56, 51, 56, 52, 56, 53, 56, 54, 56, 55, 56, 56, 56, 57, 57, 48, 57, 49, 57, 50, 57, 51, 57, 52, 57, 53, 57, 54, 57, 55, 57, 56, 57, 57]⟩)) (zt 130)), zr 132 (.mv (zt 14)), zr 133 (.ixs (.const (.string ⟨#[48, 48, 48, 49, 48, 50, 48, 51, 48, 52, 48, 53, 48, 54, 48, 55, 48, 56, 48, 57, 49, 48, 49, 49, 49, 50, 49, 51, 49, 52, 49, 53, 49, 54, 49, 55, 49, 56, 49, 57, 50, 48, 50, 49, 50, 50, 50, 51, 50, 52, 50, 53, 50, 54, 50, 55, 50, 56, 50, 57, 51, 48, 51, 49, 51, 50, 51, 51, 51, 52, 51, 53, 51, 54, 51, 55, 51, 56, 51, 57, 52, 48, 52, 49, 52, 50, 52, 51, 52, 52, 52, 53, 52, 54, 52, 55, 52, 56, 52, 57, 53, 48, 53, 49, 53, 50, 53, 51, 53, 52, 53, 53, 53, 54, 53, 55, 53, 56, 53, 57, 54, 48, 54, 49, 54, 50, 54, 51, 54, 52, 54, 53, 54, 54, 54, 55, 54, 56, 54, 57, 55, 48, 55, 49, 55, 50, 55, 51, 55, 52, 55, 53, 55, 54, 55, 55, 55, 56, 55, 57, 56, 48, 56, 49, 56, 50, 56, 51, 56, 52, 56, 53, 56, 54, 56, 55, 56, 56, 56, 57, 57, 48, 57, 49, 57, 50, 57, 51, 57, 52, 57, 53, 57, 54, 57, 55, 57, 56, 57, 57]⟩)) (zt 132)), zr 134 (.ia 1 (zt 123) (zt 125)), ze (.st 1 (zt 134) (zt 131)), zr 135 (.ia 1 (zt 126) (zt 128)), ze (.st 1 (zt 135) (zt 133))])
  (.run [zr 136 (.mv (zt 4)), zr 137 (.bin .sub (zt 136) (zi 4)), za 4 (zt 137)]))))))
  .skip))
  rc108_3))
def rc108 : RC := (.seq (.run [zr 17 (.mv (zt 0)), zr 18 (.lenl (zt 17)), za 4 (zt 18)])
  (.seq (.block 0 (.loop rc108_1))
  rc108_4))
def ce108 : List (Nat × List Nat × List Nat) := [(7, [0, 1, 2, 3, 4, 5, 6, 7, 8, 9, 10, 11, 12, 13, 14], [0, 0, 2, 0, 0, 16, 0, 64, 192, 0, 512, 455, 2503, 8191, 16383]), (8, [0, 1, 2, 3, 4, 5, 6, 7, 8, 9, 10, 11, 12, 13, 14], [0, 0, 2, 0, 0, 16, 0, 64, 192, 0, 512, 455, 2503, 8191, 16383]), (9, [0, 1, 2, 3, 4, 5, 6, 7, 8, 9, 10, 11, 12, 13, 14], [0, 0, 2, 0, 0, 16, 0, 64, 192, 0, 512, 455, 2503, 8191, 16383]), (10, [0, 1, 2, 3, 4, 5, 6, 7, 8, 9, 10, 11, 12, 13, 14], [0, 0, 2, 0, 0, 16, 0, 64, 192, 0, 512, 455, 2503, 8191, 16383]), (17, [0, 1, 2, 3, 4, 5, 6, 7, 8, 9, 10, 11, 12, 13, 14], [0, 0, 2, 0, 0, 16, 0, 64, 192, 0, 512, 455, 2503, 8191, 16383]), (18, [0, 1, 2, 3, 4, 5, 6, 7, 8, 9, 10, 11, 12, 13, 14], [0, 0, 2, 0, 0, 16, 0, 64, 192, 0, 512, 455, 2503, 8191, 16383]), (23, [0, 1, 2, 3, 4, 5, 6, 7, 8, 9, 10, 11, 12, 13, 14], [0, 0, 2, 0, 0, 16, 0, 64, 192, 0, 512, 455, 2503, 8191, 16383])]
def ro108 : List RO := []
theorem ok108 : okFn Tryz.prog 108 167 ce108 = some (rc108, ro108) := by kernel_rfl
def rc109_0 : RC := (.block 1 (.seq (.run [zr 47 (.mv (zt 13)), zr 48 (.bin .sub (zt 47) (zi 1)), za 13 (zt 48)])
  (.seq (.run [zr 49 (.mv (zt 13)), zr 50 (.mv (zt 1)), zr 51 (.mv (zt 16)), zr 52 (.bin .and (zt 50) (zt 51)), zr 53 (.ixs (.const (.string ⟨#[48, 49, 50, 51, 52, 53, 54, 55, 56, 57, 97, 98, 99, 100, 101, 102, 103, 104, 105, 106, 107, 108, 109, 110, 111, 112, 113, 114, 115, 116, 117, 118, 119, 120, 121, 122]⟩)) (zt 52)), zr 54 (.iaa 65 1 (zt 12) (zt 49)), ze (.st 1 (zt 54) (zt 53))])
  (.run [zr 55 (.mv (zt 1)), zr 56 (.mv (zt 14)), zr 57 (.bin .shr (zt 55) (zt 56)), za 1 (zt 57)]))))
def rc109_1 : RC := (.seq (.seq (.run [zr 44 (.mv (zt 1)), zr 45 (.mv (zt 15)), zr 46 (.bin .geq (zt 44) (zt 45))])
  (.cond (zt 46)
  .skip
  (.exit 0)))
  rc109_0)
def rc109_2 : RC := (.seq (.run [zr 58 (.mv (zt 13)), zr 59 (.bin .sub (zt 58) (zi 1)), za 13 (zt 59)])
  (.run [zr 60 (.mv (zt 13)), zr 61 (.mv (zt 1)), zr 62 (.ixs (.const (.string ⟨#[48, 49, 50, 51, 52, 53, 54, 55, 56, 57, 97, 98, 99, 100, 101, 102, 103, 104, 105, 106, 107, 108, 109, 110, 111, 112, 113, 114, 115, 116, 117, 118, 119, 120, 121, 122]⟩)) (zt 61)), zr 63 (.iaa 65 1 (zt 12) (zt 60)), ze (.st 1 (zt 63) (zt 62))]))
def rc109_3 : RC := (.block 3 (.seq (.run [zr 69 (.mv (zt 13)), zr 70 (.bin .sub (zt 69) (zi 1)), za 13 (zt 70)])
  (.seq (.run [zr 71 (.mv (zt 1)), zr 72 (.mv (zt 17)), zr 73 (.bin .quo (zt 71) (zt 72)), za 18 (zt 73)])
  (.seq (.run [zr 74 (.mv (zt 13)), zr 75 (.mv (zt 1)), zr 76 (.mv (zt 18)), zr 77 (.mv (zt 17)), zr 78 (.bin .mul (zt 76) (zt 77)), zr 79 (.bin .sub (zt 75) (zt 78)), zr 80 (.ixs (.const (.string ⟨#[48, 49, 50, 51, 52, 53, 54, 55, 56, 57, 97, 98, 99, 100, 101, 102, 103, 104, 105, 106, 107, 108, 109, 110, 111, 112, 113, 114, 115, 116, 117, 118, 119, 120, 121, 122]⟩)) (zt 79)), zr 81 (.iaa 65 1 (zt 12) (zt 74)), ze (.st 1 (zt 81) (zt 80))])
  (.run [zr 82 (.mv (zt 18)), za 1 (zt 82)])))))
def rc109_4 : RC := (.seq (.seq (.run [zr 66 (.mv (zt 1)), zr 67 (.mv (zt 17)), zr 68 (.bin .geq (zt 66) (zt 67))])
  (.cond (zt 68)
  .skip
  (.exit 2)))
  rc109_3)
def rc109_5 : RC := (.seq (.run [zr 83 (.mv (zt 13)), zr 84 (.bin .sub (zt 83) (zi 1)), za 13 (zt 84)])
  (.run [zr 85 (.mv (zt 13)), zr 86 (.mv (zt 1)), zr 87 (.ixs (.const (.string ⟨#[48, 49, 50, 51, 52, 53, 54, 55, 56, 57, 97, 98, 99, 100, 101, 102, 103, 104, 105, 106, 107, 108, 109, 110, 111, 112, 113, 114, 115, 116, 117, 118, 119, 120, 121, 122]⟩)) (zt 86)), zr 88 (.iaa 65 1 (zt 12) (zt 85)), ze (.st 1 (zt 88) (zt 87))]))
def rc109_6 : RC := (.seq (.run [zr 99 (.mv (zt 13)), zr 100 (.sla 65 1 (zt 12) (some (zt 99)) none), zr 101 (.b2s (zt 100)), za 11 (zt 101)])
  .ret)
def rc109_7 : RC := (.seq (.seq (.run [zr 94 (.mv (zt 4))])
  (.cond (zt 94)
  (.seq (.run [zr 95 (.mv (zt 0)), zr 96 (.mv (zt 13)), zr 97 (.sla 65 1 (zt 12) (some (zt 96)) none), zf 98 (.app 5 1 1 (zt 95) (zt 97)), za 10 (zt 98)])
  .ret)
  .skip))
  rc109_6)
def rc109_8 : RC := (.seq (.seq (.run [zr 89 (.mv (zt 3))])
  (.cond (zt 89)
  (.seq (.run [zr 90 (.mv (zt 13)), zr 91 (.bin .sub (zt 90) (zi 1)), za 13 (zt 91)])
  (.run [zr 92 (.mv (zt 13)), zr 93 (.iaa 65 1 (zt 12) (zt 92)), ze (.st 1 (zt 93) (.const (.int .u8 45)))]))
  .skip))
  rc109_7)
def rc109_9 : RC := (.seq (.seq (.run [zr 33 (.mv (zt 2)), zc 34 120 [(zt 33)]])
  (.cond (zt 34)
  (.seq (.run [zr 35 (.mv (zt 2)), zr 36 (.cvi .u64 (zt 35)), zc 37 121 [(zt 36)], zr 38 (.cvi .u64 (zt 37)), za 14 (zt 38)])
  (.seq (.run [zr 39 (.mv (zt 2)), zr 40 (.cvi .u64 (zt 39)), za 15 (zt 40)])
  (.seq (.run [zr 41 (.mv (zt 2)), zr 42 (.cvi .u64 (zt 41)), zr 43 (.bin .sub (zt 42) (.const (.int .u64 1))), za 16 (zt 43)])
  (.seq (.block 0 (.loop rc109_1))
  rc109_2))))
  (.seq (.run [zr 64 (.mv (zt 2)), zr 65 (.cvi .u64 (zt 64)), za 17 (zt 65)])
  (.seq (.block 2 (.loop rc109_4))
  rc109_5))))
  rc109_8)
def rc109_10 : RC := (.seq (.run [zf 12 (.al [(.int .u8 0), (.int .u8 0), (.int .u8 0), (.int .u8 0), (.int .u8 0), (.int .u8 0), (.int .u8 0), (.int .u8 0), (.int .u8 0), (.int .u8 0), (.int .u8 0), (.int .u8 0), (.int .u8 0), (.int .u8 0), (.int .u8 0), (.int .u8 0), (.int .u8 0), (.int .u8 0), (.int .u8 0), (.int .u8 0), (.int .u8 0), (.int .u8 0), (.int .u8 0), (.int .u8 0), (.int .u8 0), (.int .u8 0), (.int .u8 0), (.int .u8 0), (.int .u8 0), (.int .u8 0), (.int .u8 0), (.int .u8 0), (.int .u8 0), (.int .u8 0), (.int .u8 0), (.int .u8 0), (.int .u8 0), (.int .u8 0), (.int .u8 0), (.int .u8 0), (.int .u8 0), (.int .u8 0), (.int .u8 0), (.int .u8 0), (.int .u8 0), (.int .u8 0), (.int .u8 0), (.int .u8 0), (.int .u8 0), (.int .u8 0), (.int .u8 0), (.int .u8 0), (.int .u8 0), (.int .u8 0), (.int .u8 0), (.int .u8 0), (.int .u8 0), (.int .u8 0), (.int .u8 0), (.int .u8 0), (.int .u8 0), (.int .u8 0), (.int .u8 0), (.int .u8 0), (.int .u8 0)] 213)])
  (.seq (.run [za 13 (zi 65)])
  (.seq (.seq (.run [zr 30 (.mv (zt 3))])
  (.cond (zt 30)
  (.run [zr 31 (.mv (zt 1)), zr 32 (.neg (zt 31)), za 1 (zt 32)])
  .skip))
  rc109_9)))
def rc109 : RC := (.seq (.run [za 10 (.const (.slice none 0 0)), za 11 (.const (.string ⟨#[]⟩))])
  (.seq (.seq (.run [zr 19 (.mv (zt 2)), zr 20 (.bin .lss (zt 19) (zi 2)), zr 21 (.mv (zt 20)), zg 22 21 false (.mv (zt 2)), zg 23 21 false (.bin .eql (zt 22) (zi 10)), zr 24 (.pick (zt 21) (.const (.bool true)) (zt 23)), zr 25 (.mv (zt 24)), zg 26 25 false (.mv (zt 2)), zg 27 25 false (.bin .gtr (zt 26) (zi 36)), zr 28 (.pick (zt 25) (.const (.bool true)) (zt 27))])
  (.cond (zt 28)
  (.run [zr 29 (.mki 9 (.const (.string ⟨#[115, 116, 114, 99, 111, 110, 118, 58, 32, 105, 108, 108, 101, 103, 97, 108, 32, 65, 112, 112, 101, 110, 100, 73, 110, 116, 47, 70, 111, 114, 109, 97, 116, 73, 110, 116, 32, 98, 97, 115, 101]⟩))), ⟨none, none, .bad, []⟩])
  .skip))
  rc109_10))
def ce109 : List (Nat × List Nat × List Nat) := []
def ro109 : List RO := [(.mv (zt 10)), (.mv (zt 11))]
theorem ok109 : okFn Tryz.prog 109 102 ce109 = some (rc109, ro109) := by kernel_rfl
def rc110_0 : RC := (.seq (.run [zr 52 (.mv (zt 0)), zr 53 (.nck (zt 52)), zr 54 (.fa 1 (zt 53)), zr 55 (.ld (zt 54)), zr 56 (.bin .add (zt 55) (zi 1)), zr 57 (.nck (zt 52)), zr 58 (.fa 1 (zt 57)), ze (.st 1 (zt 58) (zt 56))])
  (.seq (.run [zr 59 (.ldn 6 (zt 6)), ze (.st 6 (zt 4) (zt 59)), za 5 (.const .nilIface)])
  .ret))
def rc110_1 : RC := (.seq (.seq (.run [zr 23 (.mv (zt 0)), zr 24 (.nck (zt 23)), zr 25 (.fa 0 (zt 24)), zr 26 (.ld (zt 25)), zr 27 (.mv (zt 0)), zr 28 (.nck (zt 27)), zr 29 (.fa 1 (zt 28)), zr 30 (.ld (zt 29)), zr 31 (.ixs (zt 26) (zt 30))])
  (.block 0 (.seq (.run [zr 34 (.bin .eql (zt 31) (.const (.int .u8 42))), za 33 (zt 34)])
  (.cond (zt 33)
  (.run [zr 35 (.ldn 6 (zt 6)), zf 36 (.bsl 76 6 1 [(.int .i64 0), (.int .u64 0), (.int .u64 0), (.int .u64 0), (.int .u64 0), (.slice none 0 0)] [(0, 6, (zt 35))]), zr 37 (.bld [(.int .i64 0), (.int .u64 0), (.int .u64 0), (.int .u64 0), (.int .u64 0), (.slice none 0 0)] [(0, 1, (zi 4)), (5, 1, (zt 36))]), ze (.st 6 (zt 6) (zt 37))])
  (.seq (.run [zr 39 (.bin .eql (zt 31) (.const (.int .u8 43))), za 38 (zt 39)])
  (.cond (zt 38)
  (.run [zr 40 (.ldn 6 (zt 6)), zr 41 (.ldn 6 (zt 6)), zf 42 (.bsl 76 6 1 [(.int .i64 0), (.int .u64 0), (.int .u64 0), (.int .u64 0), (.int .u64 0), (.slice none 0 0)] [(0, 6, (zt 41))]), zr 43 (.bld [(.int .i64 0), (.int .u64 0), (.int .u64 0), (.int .u64 0), (.int .u64 0), (.slice none 0 0)] [(0, 1, (zi 4)), (5, 1, (zt 42))]), zf 44 (.bsl 76 6 2 [(.int .i64 0), (.int .u64 0), (.int .u64 0), (.int .u64 0), (.int .u64 0), (.slice none 0 0), (.int .i64 0), (.int .u64 0), (.int .u64 0), (.int .u64 0), (.int .u64 0), (.slice none 0 0)] [(0, 6, (zt 40)), (6, 6, (zt 43))]), zr 45 (.bld [(.int .i64 0), (.int .u64 0), (.int .u64 0), (.int .u64 0), (.int .u64 0), (.slice none 0 0)] [(0, 1, (zi 2)), (5, 1, (zt 44))]), ze (.st 6 (zt 6) (zt 45))])
  (.seq (.run [zr 47 (.bin .eql (zt 31) (.const (.int .u8 63))), za 46 (zt 47)])
  (.cond (zt 46)
  (.run [zr 48 (.ldn 6 (zt 6)), zr 49 (.bld [(.int .i64 0), (.int .u64 0), (.int .u64 0), (.int .u64 0), (.int .u64 0), (.slice none 0 0)] []), zf 50 (.bsl 76 6 2 [(.int .i64 0), (.int .u64 0), (.int .u64 0), (.int .u64 0), (.int .u64 0), (.slice none 0 0), (.int .i64 0), (.int .u64 0), (.int .u64 0), (.int .u64 0), (.int .u64 0), (.slice none 0 0)] [(0, 6, (zt 48)), (6, 6, (zt 49))]), zr 51 (.bld [(.int .i64 0), (.int .u64 0), (.int .u64 0), (.int .u64 0), (.int .u64 0), (.slice none 0 0)] [(0, 1, (zi 3)), (5, 1, (zt 50))]), ze (.st 6 (zt 6) (zt 51))])
  (.seq (.run [zr 32 (.ldn 6 (zt 6)), ze (.st 6 (zt 4) (zt 32)), za 5 (.const .nilIface)])
  .ret)))))))))
  rc110_0)
def rc110 : RC := (.seq (.run [zf 4 (.al [(.int .i64 0), (.int .u64 0), (.int .u64 0), (.int .u64 0), (.int .u64 0), (.slice none 0 0)] 76), za 5 (.const .nilIface)])
  (.seq (.run [zr 9 (.mv (zt 0)), zr 10 (.mv (zt 1)), zc 11 122 [(zt 9), (zt 10)], zr 8 (.mv (zt 11)), zr 12 (.ext 0 (zt 8)), zr 13 (.ext 1 (zt 8)), zf 6 (.al [(.int .i64 0), (.int .u64 0), (.int .u64 0), (.int .u64 0), (.int .u64 0), (.slice none 0 0)] 76), ze (.st 6 (zt 6) (zt 12)), za 7 (zt 13)])
  (.seq (.seq (.run [zr 14 (.mv (zt 7)), zr 15 (.eq true (.iface []) (zt 14) (.const .nilIface)), zr 16 (.mv (zt 15)), zg 17 16 false (.mv (zt 0)), ⟨(some 18), (some (16, false)), (.c (.fn 86 [(zt 17)])), []⟩, zg 19 16 false (.not (zt 18)), zr 20 (.pick (zt 16) (.const (.bool true)) (zt 19))])
  (.cond (zt 20)
  (.seq (.run [zr 21 (.ldn 6 (zt 6)), zr 22 (.mv (zt 7)), ze (.st 6 (zt 4) (zt 21)), za 5 (zt 22)])
  .ret)
  .skip))
  rc110_1)))
def ce110 : List (Nat × List Nat × List Nat) := [(4, [0, 1, 2, 3, 4, 5, 6, 7, 8], [0, 1, 3, 7, 0, 16, 48, 112, 255])]
def ro110 : List RO := [(.ldn 6 (zt 4)), (.mv (zt 5))]
theorem ok110 : okFn Tryz.prog 110 60 ce110 = some (rc110, ro110) := by kernel_rfl
def rc111 : RC := (.seq (.run [za 2 (.const (.int .u8 0))])
  (.seq (.run [zr 3 (.mv (zt 0)), zr 4 (.bin .or (zt 3) (.const (.int .u8 32))), za 2 (zt 4)])
  .ret))
def ce111 : List (Nat × List Nat × List Nat) := []
def ro111 : List RO := [(.mv (zt 2))]
theorem ok111 : okFn Tryz.prog 111 5 ce111 = some (rc111, ro111) := by kernel_rfl
def rc112_0 : RC := (.seq (.run [za 3 (.const (.int .i32 95))])
  (.exit 1))
def rc112_1 : RC := (.seq (.seq (.run [zr 90 (.mv (zt 3)), zr 91 (.bin .eql (zt 90) (.const (.int .i32 95)))])
  (.cond (zt 91)
  (.seq (.run [za 2 (.const (.bool false))])
  .ret)
  .skip))
  (.run [za 3 (.const (.int .i32 33))]))
def rc112_2 : RC := (.seq (.seq (.run [zr 84 (.mv (zt 0)), zr 85 (.mv (zt 4)), zr 86 (.ixs (zt 84) (zt 85)), zr 87 (.bin .eql (zt 86) (.const (.int .u8 95)))])
  (.cond (zt 87)
  (.seq (.seq (.run [zr 88 (.mv (zt 3)), zr 89 (.bin .neq (zt 88) (.const (.int .i32 48)))])
  (.cond (zt 89)
  (.seq (.run [za 2 (.const (.bool false))])
  .ret)
  .skip))
  rc112_0)
  .skip))
  rc112_1)
def rc112_3 : RC := (.seq (.block 1 (.seq (.seq (.run [zr 57 (.mv (zt 0)), zr 58 (.mv (zt 4)), zr 59 (.ixs (zt 57) (zt 58)), zr 60 (.bin .leq (.const (.int .u8 48)) (zt 59)), zr 61 (.mv (zt 60)), zg 62 61 true (.mv (zt 0)), zg 63 61 true (.mv (zt 4)), zg 64 61 true (.ixs (zt 62) (zt 63)), zg 65 61 true (.bin .leq (zt 64) (.const (.int .u8 57))), zr 66 (.pick (zt 61) (zt 65) (.const (.bool false))), zr 67 (.mv (zt 66)), zg 68 67 false (.mv (zt 5)), zg 69 67 false (.mv (zt 68)), zg 70 69 true (.mv (zt 0)), zg 71 69 true (.mv (zt 4)), zg 72 69 true (.ixs (zt 70) (zt 71)), ⟨(some 73), (some (69, true)), (.c (.fn 111 [(zt 72)])), []⟩, zg 74 69 true (.bin .leq (.const (.int .u8 97)) (zt 73)), zg 75 67 false (.pick (zt 69) (zt 74) (.const (.bool false))), zg 76 67 false (.mv (zt 75)), zg 77 76 true (.mv (zt 0)), zg 78 76 true (.mv (zt 4)), zg 79 76 true (.ixs (zt 77) (zt 78)), ⟨(some 80), (some (76, true)), (.c (.fn 111 [(zt 79)])), []⟩, zg 81 76 true (.bin .leq (zt 80) (.const (.int .u8 102))), zg 82 67 false (.pick (zt 76) (zt 81) (.const (.bool false))), zr 83 (.pick (zt 67) (.const (.bool true)) (zt 82))])
  (.cond (zt 83)
  (.seq (.run [za 3 (.const (.int .i32 48))])
  (.exit 1))
  .skip))
  rc112_2))
  (.run [zr 55 (.mv (zt 4)), zr 56 (.bin .add (zt 55) (zi 1)), za 4 (zt 56)]))
def rc112_4 : RC := (.seq (.seq (.run [zr 51 (.mv (zt 4)), zr 52 (.mv (zt 0)), zr 53 (.lens (zt 52)), zr 54 (.bin .lss (zt 51) (zt 53))])
  (.cond (zt 54)
  .skip
  (.exit 0)))
  rc112_3)
def rc112_5 : RC := (.seq (.run [zr 92 (.mv (zt 3)), zr 93 (.bin .neq (zt 92) (.const (.int .i32 95))), za 2 (zt 93)])
  .ret)
def rc112_6 : RC := (.seq (.block 0 (.loop rc112_4))
  rc112_5)
def rc112_7 : RC := (.seq (.run [za 5 (.const (.bool false))])
  (.seq (.seq (.run [zr 21 (.mv (zt 0)), zr 22 (.lens (zt 21)), zr 23 (.bin .geq (zt 22) (zi 2)), zr 24 (.mv (zt 23)), zg 25 24 true (.mv (zt 0)), zg 26 24 true (.ixs (zt 25) (zi 0)), zg 27 24 true (.bin .eql (zt 26) (.const (.int .u8 48))), zr 28 (.pick (zt 24) (zt 27) (.const (.bool false))), zr 29 (.mv (zt 28)), zg 30 29 true (.mv (zt 0)), zg 31 29 true (.ixs (zt 30) (zi 1)), ⟨(some 32), (some (29, true)), (.c (.fn 111 [(zt 31)])), []⟩, zg 33 29 true (.bin .eql (zt 32) (.const (.int .u8 98))), zg 34 29 true (.mv (zt 33)), zg 35 34 false (.mv (zt 0)), zg 36 34 false (.ixs (zt 35) (zi 1)), ⟨(some 37), (some (34, false)), (.c (.fn 111 [(zt 36)])), []⟩, zg 38 34 false (.bin .eql (zt 37) (.const (.int .u8 111))), zg 39 29 true (.pick (zt 34) (.const (.bool true)) (zt 38)), zg 40 29 true (.mv (zt 39)), zg 41 40 false (.mv (zt 0)), zg 42 40 false (.ixs (zt 41) (zi 1)), ⟨(some 43), (some (40, false)), (.c (.fn 111 [(zt 42)])), []⟩, zg 44 40 false (.bin .eql (zt 43) (.const (.int .u8 120))), zg 45 29 true (.pick (zt 40) (.const (.bool true)) (zt 44)), zr 46 (.pick (zt 29) (zt 45) (.const (.bool false)))])
  (.cond (zt 46)
  (.seq (.run [za 4 (zi 2)])
  (.seq (.run [za 3 (.const (.int .i32 48))])
  (.run [zr 47 (.mv (zt 0)), zr 48 (.ixs (zt 47) (zi 1)), zc 49 111 [(zt 48)], zr 50 (.bin .eql (zt 49) (.const (.int .u8 120))), za 5 (zt 50)])))
  .skip))
  rc112_6))
def rc112 : RC := (.seq (.run [za 2 (.const (.bool false))])
  (.seq (.run [za 3 (.const (.int .i32 94))])
  (.seq (.run [za 4 (zi 0)])
  (.seq (.seq (.run [zr 6 (.mv (zt 0)), zr 7 (.lens (zt 6)), zr 8 (.bin .geq (zt 7) (zi 1)), zr 9 (.mv (zt 8)), zg 10 9 true (.mv (zt 0)), zg 11 9 true (.ixs (zt 10) (zi 0)), zg 12 9 true (.bin .eql (zt 11) (.const (.int .u8 45))), zg 13 9 true (.mv (zt 12)), zg 14 13 false (.mv (zt 0)), zg 15 13 false (.ixs (zt 14) (zi 0)), zg 16 13 false (.bin .eql (zt 15) (.const (.int .u8 43))), zg 17 9 true (.pick (zt 13) (.const (.bool true)) (zt 16)), zr 18 (.pick (zt 9) (zt 17) (.const (.bool false)))])
  (.cond (zt 18)
  (.run [zr 19 (.mv (zt 0)), zr 20 (.sls (zt 19) (some (zi 1)) none), za 0 (zt 20)])
  .skip))
  rc112_7))))
def ce112 : List (Nat × List Nat × List Nat) := []
def ro112 : List RO := [(.mv (zt 2))]
theorem ok112 : okFn Tryz.prog 112 94 ce112 = some (rc112, ro112) := by kernel_rfl
def rc113 : RC := (.seq (.run [za 4 (.const (.pointer none))])
  (.seq (.run [zr 5 (.mv (zt 0)), zr 6 (.mv (zt 1)), zr 8 (.ld (.global 3)), ⟨(some 7), none, (.c (.fn 123 [(zt 6)])), [(8, none, .ld (.global 3))]⟩, zr 9 (.bld [(.string ⟨#[]⟩), (.string ⟨#[]⟩), .nilIface] [(0, 1, (zt 5)), (1, 1, (zt 7)), (2, 1, (zt 8))]), zf 10 (.bx 218 (zt 9)), za 4 (zt 10)])
  .ret))
def ce113 : List (Nat × List Nat × List Nat) := [(1, [0, 1, 3, 2, 4, 5, 6], [0, 0, 2, 0, 15, 31, 63])]
def ro113 : List RO := [(.mv (zt 4))]
theorem ok113 : okFn Tryz.prog 113 11 ce113 = some (rc113, ro113) := by kernel_rfl
def rc114 : RC := (.seq (.run [za 4 (.const (.pointer none))])
  (.seq (.run [zr 5 (.mv (zt 0)), zr 6 (.mv (zt 1)), zr 8 (.ld (.global 4)), ⟨(some 7), none, (.c (.fn 123 [(zt 6)])), [(8, none, .ld (.global 4))]⟩, zr 9 (.bld [(.string ⟨#[]⟩), (.string ⟨#[]⟩), .nilIface] [(0, 1, (zt 5)), (1, 1, (zt 7)), (2, 1, (zt 8))]), zf 10 (.bx 218 (zt 9)), za 4 (zt 10)])
  .ret))
def ce114 : List (Nat × List Nat × List Nat) := [(1, [0, 1, 3, 2, 4, 5, 6], [0, 0, 2, 0, 15, 31, 63])]
def ro114 : List RO := [(.mv (zt 4))]
theorem ok114 : okFn Tryz.prog 114 11 ce114 = some (rc114, ro114) := by kernel_rfl
def rc115 : RC := (.seq (.run [za 6 (.const (.pointer none))])
  (.seq (.run [zr 7 (.mv (zt 0)), zr 8 (.mv (zt 1)), zc 9 123 [(zt 8)], zr 10 (.mv (zt 2)), zc 11 61 [(zt 10)], zr 12 (.bin .add (.const (.string ⟨#[105, 110, 118, 97, 108, 105, 100, 32, 98, 97, 115, 101, 32]⟩)) (zt 11)), zc 13 124 [(zt 12)], zr 14 (.bld [(.string ⟨#[]⟩), (.string ⟨#[]⟩), .nilIface] [(0, 1, (zt 7)), (1, 1, (zt 9)), (2, 1, (zt 13))]), zf 15 (.bx 218 (zt 14)), za 6 (zt 15)])
  .ret))
def ce115 : List (Nat × List Nat × List Nat) := []
def ro115 : List RO := [(.mv (zt 6))]
theorem ok115 : okFn Tryz.prog 115 16 ce115 = some (rc115, ro115) := by kernel_rfl
def rc116 : RC := (.seq (.run [za 6 (.const (.pointer none))])
  (.seq (.run [zr 7 (.mv (zt 0)), zr 8 (.mv (zt 1)), zc 9 123 [(zt 8)], zr 10 (.mv (zt 2)), zc 11 61 [(zt 10)], zr 12 (.bin .add (.const (.string ⟨#[105, 110, 118, 97, 108, 105, 100, 32, 98, 105, 116, 32, 115, 105, 122, 101, 32]⟩)) (zt 11)), zc 13 124 [(zt 12)], zr 14 (.bld [(.string ⟨#[]⟩), (.string ⟨#[]⟩), .nilIface] [(0, 1, (zt 7)), (1, 1, (zt 9)), (2, 1, (zt 13))]), zf 15 (.bx 218 (zt 14)), za 6 (zt 15)])
  .ret))
def ce116 : List (Nat × List Nat × List Nat) := []
def ro116 : List RO := [(.mv (zt 6))]
theorem ok116 : okFn Tryz.prog 116 16 ce116 = some (rc116, ro116) := by kernel_rfl
def rc117 : RC := (.seq (.run [za 2 (zi 0)])
  (.seq (.run [zr 3 (.mv (zt 0)), zr 4 (.bin .mul (zt 3) (zi 78913)), zr 5 (.bin .shr (zt 4) (.const (.int .u64 18))), za 2 (zt 5)])
  .ret))
def ce117 : List (Nat × List Nat × List Nat) := []
def ro117 : List RO := [(.mv (zt 2))]
theorem ok117 : okFn Tryz.prog 117 6 ce117 = some (rc117, ro117) := by kernel_rfl
def rc118_0 : RC := (.seq (.run [zr 19 (.mv (zt 2)), zr 20 (.mv (zt 0)), zr 21 (.cvi .u8 (zt 20)), zr 22 (.ixs (.const (.string ⟨#[0, 1, 2, 2, 3, 3, 3, 3, 4, 4, 4, 4, 4, 4, 4, 4, 5, 5, 5, 5, 5, 5, 5, 5, 5, 5, 5, 5, 5, 5, 5, 5, 6, 6, 6, 6, 6, 6, 6, 6, 6, 6, 6, 6, 6, 6, 6, 6, 6, 6, 6, 6, 6, 6, 6, 6, 6, 6, 6, 6, 6, 6, 6, 6, 7, 7, 7, 7, 7, 7, 7, 7, 7, 7, 7, 7, 7, 7, 7, 7, 7, 7, 7, 7, 7, 7, 7, 7, 7, 7, 7, 7, 7, 7, 7, 7, 7, 7, 7, 7, 7, 7, 7, 7, 7, 7, 7, 7, 7, 7, 7, 7, 7, 7, 7, 7, 7, 7, 7, 7, 7, 7, 7, 7, 7, 7, 7, 7, 8, 8, 8, 8, 8, 8, 8, 8, 8, 8, 8, 8, 8, 8, 8, 8, 8, 8, 8, 8, 8, 8, 8, 8, 8, 8, 8, 8, 8, 8, 8, 8, 8, 8, 8, 8, 8, 8, 8, 8, 8, 8, 8, 8, 8, 8, 8, 8, 8, 8, 8, 8, 8, 8, 8, 8, 8, 8, 8, 8, 8, 8, 8, 8, 8, 8, 8, 8, 8, 8, 8, 8, 8, 8, 8, 8, 8, 8, 8, 8, 8, 8, 8, 8, 8, 8, 8, 8, 8, 8, 8, 8, 8, 8, 8, 8, 8, 8, 8, 8, 8, 8, 8, 8, 8, 8, 8, 8, 8, 8, 8, 8, 8, 8, 8, 8, 8, 8, 8, 8, 8, 8, 8, 8, 8, 8, 8, 8]⟩)) (zt 21)), zr 23 (.cvi .i64 (zt 22)), zr 24 (.bin .add (zt 19) (zt 23)), za 2 (zt 24)])
  .ret)
def rc118_1 : RC := (.seq (.seq (.run [zr 13 (.mv (zt 0)), zr 14 (.bin .geq (zt 13) (.const (.int .u64 256)))])
  (.cond (zt 14)
  (.seq (.run [zr 15 (.mv (zt 0)), zr 16 (.bin .shr (zt 15) (.const (.int .u64 8))), za 0 (zt 16)])
  (.run [zr 17 (.mv (zt 2)), zr 18 (.bin .add (zt 17) (zi 8)), za 2 (zt 18)]))
  .skip))
  rc118_0)
def rc118_2 : RC := (.seq (.seq (.run [zr 7 (.mv (zt 0)), zr 8 (.bin .geq (zt 7) (.const (.int .u64 65536)))])
  (.cond (zt 8)
  (.seq (.run [zr 9 (.mv (zt 0)), zr 10 (.bin .shr (zt 9) (.const (.int .u64 16))), za 0 (zt 10)])
  (.run [zr 11 (.mv (zt 2)), zr 12 (.bin .add (zt 11) (zi 16)), za 2 (zt 12)]))
  .skip))
  rc118_1)
def rc118 : RC := (.seq (.run [za 2 (zi 0)])
  (.seq (.seq (.run [zr 3 (.mv (zt 0)), zr 4 (.bin .geq (zt 3) (.const (.int .u64 4294967296)))])
  (.cond (zt 4)
  (.seq (.run [zr 5 (.mv (zt 0)), zr 6 (.bin .shr (zt 5) (.const (.int .u64 32))), za 0 (zt 6)])
  (.run [za 2 (zi 32)]))
  .skip))
  rc118_2))
def ce118 : List (Nat × List Nat × List Nat) := []
def ro118 : List RO := [(.mv (zt 2))]
theorem ok118 : okFn Tryz.prog 118 25 ce118 = some (rc118, ro118) := by kernel_rfl
def rc119_0 : RC := (.seq (.run [za 2 (zi 0)])
  .ret)
def rc119 : RC := (.seq (.run [za 2 (zi 0)])
  (.seq (.seq (.run [zr 3 (.mv (zt 0))])
  (.cond (zt 3)
  (.seq (.run [za 2 (zi 1)])
  .ret)
  .skip))
  rc119_0))
def ce119 : List (Nat × List Nat × List Nat) := []
def ro119 : List RO := [(.mv (zt 2))]
theorem ok119 : okFn Tryz.prog 119 4 ce119 = some (rc119, ro119) := by kernel_rfl
def rc120 : RC := (.seq (.run [za 2 (.const (.bool false))])
  (.seq (.run [zr 3 (.mv (zt 0)), zr 4 (.mv (zt 0)), zr 5 (.bin .sub (zt 4) (zi 1)), zr 6 (.bin .and (zt 3) (zt 5)), zr 7 (.bin .eql (zt 6) (zi 0)), za 2 (zt 7)])
  .ret))
def ce120 : List (Nat × List Nat × List Nat) := []
def ro120 : List RO := [(.mv (zt 2))]
theorem ok120 : okFn Tryz.prog 120 8 ce120 = some (rc120, ro120) := by kernel_rfl
def rc121_0 : RC := (.seq (.run [zr 6 (.mv (zt 0)), zc 7 126 [(zt 6)], za 2 (zt 7)])
  .ret)
def rc121 : RC := (.seq (.run [za 2 (zi 0)])
  (.seq (.cond (.const (.bool false))
  (.seq (.run [zr 3 (.mv (zt 0)), zr 4 (.cvi .u32 (zt 3)), zc 5 125 [(zt 4)], za 2 (zt 5)])
  .ret)
  .skip)
  rc121_0))
def ce121 : List (Nat × List Nat × List Nat) := []
def ro121 : List RO := [(.mv (zt 2))]
theorem ok121 : okFn Tryz.prog 121 8 ce121 = some (rc121, ro121) := by kernel_rfl
def rc122_0 : RC := (.seq (.run [zr 55 (.mv (zt 0)), zr 56 (.nck (zt 55)), zr 57 (.fa 1 (zt 56)), zr 58 (.ld (zt 57)), zr 59 (.bin .add (zt 58) (zi 1)), zr 60 (.nck (zt 55)), zr 61 (.fa 1 (zt 60)), ze (.st 1 (zt 61) (zt 59))])
  (.seq (.run [zr 62 (.ldn 6 (zt 7)), ze (.st 6 (zt 4) (zt 62)), za 5 (.const .nilIface)])
  .ret))
def rc122_1 : RC := (.seq (.seq (.run [zr 51 (.mv (zt 8)), zr 52 (.eq true (.iface []) (zt 51) (.const .nilIface))])
  (.cond (zt 52)
  (.seq (.run [zr 53 (.bld [(.int .i64 0), (.int .u64 0), (.int .u64 0), (.int .u64 0), (.int .u64 0), (.slice none 0 0)] []), zr 54 (.mv (zt 8)), ze (.st 6 (zt 4) (zt 53)), za 5 (zt 54)])
  .ret)
  .skip))
  rc122_0)
def rc122_2 : RC := (.seq (.run [zr 28 (.mv (zt 0)), zr 29 (.nck (zt 28)), zr 30 (.fa 1 (zt 29)), zr 31 (.ld (zt 30)), zr 32 (.bin .add (zt 31) (zi 1)), zr 33 (.nck (zt 28)), zr 34 (.fa 1 (zt 33)), ze (.st 1 (zt 34) (zt 32))])
  (.seq (.run [zr 36 (.mv (zt 0)), zr 37 (.mv (zt 1)), zr 38 (.bin .add (zt 37) (zi 1)), zc 39 85 [(zt 36), (zt 38)], zr 35 (.mv (zt 39)), zr 40 (.ext 0 (zt 35)), zr 41 (.ext 1 (zt 35)), zf 7 (.al [(.int .i64 0), (.int .u64 0), (.int .u64 0), (.int .u64 0), (.int .u64 0), (.slice none 0 0)] 76), ze (.st 6 (zt 7) (zt 40)), za 8 (zt 41)])
  (.seq (.seq (.run [zr 42 (.mv (zt 8)), zr 43 (.eq false (.iface []) (zt 42) (.const .nilIface)), zr 44 (.mv (zt 43)), zg 45 44 true (.mv (zt 0)), ⟨(some 46), (some (44, true)), (.c (.fn 96 [(zt 45), (.const (.int .u8 41))])), []⟩, zg 47 44 true (.not (zt 46)), zr 48 (.pick (zt 44) (zt 47) (.const (.bool false)))])
  (.cond (zt 48)
  (.run [zr 49 (.mv (zt 0)), zc 50 87 [(zt 49)], za 8 (zt 50)])
  .skip))
  rc122_1)))
def rc122_3 : RC := (.cond (zt 81)
  (.seq (.run [zr 86 (.bld [(.int .i64 0), (.int .u64 0), (.int .u64 0), (.int .u64 0), (.int .u64 0), (.slice none 0 0)] []), zr 87 (.mv (zt 0)), zc 88 87 [(zt 87)], ze (.st 6 (zt 4) (zt 86)), za 5 (zt 88)])
  .ret)
  .skip)
def rc122_4 : RC := (.seq (.run [zr 98 (.bld [(.int .u64 0), (.int .u64 0), (.int .u64 0), (.int .u64 0)] []), zr 99 (.mv (zt 9)), zc 100 71 [(zt 98), (zt 99)], zr 101 (.bld [(.int .i64 0), (.int .u64 0), (.int .u64 0), (.int .u64 0), (.int .u64 0), (.slice none 0 0)] [(0, 1, (zi 1)), (1, 4, (zt 100))]), ze (.st 6 (zt 4) (zt 101)), za 5 (.const .nilIface)])
  .ret)
def rc122_5 : RC := (.seq (.run [zr 90 (.mv (zt 0)), zc 91 128 [(zt 90)], zr 89 (.mv (zt 91)), zr 92 (.ext 0 (zt 89)), zr 93 (.ext 1 (zt 89)), za 9 (zt 92), za 10 (zt 93)])
  (.seq (.seq (.run [zr 94 (.mv (zt 10)), zr 95 (.eq true (.iface []) (zt 94) (.const .nilIface))])
  (.cond (zt 95)
  (.seq (.run [zr 96 (.bld [(.int .i64 0), (.int .u64 0), (.int .u64 0), (.int .u64 0), (.int .u64 0), (.slice none 0 0)] []), zr 97 (.mv (zt 10)), ze (.st 6 (zt 4) (zt 96)), za 5 (zt 97)])
  .ret)
  .skip))
  rc122_4))
def rc122 : RC := (.seq (.run [zf 4 (.al [(.int .i64 0), (.int .u64 0), (.int .u64 0), (.int .u64 0), (.int .u64 0), (.slice none 0 0)] 76), za 5 (.const .nilIface)])
  (.seq (.seq (.run [zr 11 (.mv (zt 0)), zr 12 (.nck (zt 11)), zr 13 (.fa 0 (zt 12)), zr 14 (.ld (zt 13)), zr 15 (.mv (zt 0)), zr 16 (.nck (zt 15)), zr 17 (.fa 1 (zt 16)), zr 18 (.ld (zt 17)), zr 19 (.ixs (zt 14) (zt 18)), za 6 (zt 19)])
  (.seq (.run [zr 20 (.mv (zt 6))])
  (.block 0 (.seq (.run [zr 22 (.bin .eql (zt 20) (.const (.int .u8 40))), za 21 (zt 22)])
  (.cond (zt 21)
  (.seq (.seq (.run [zr 23 (.mv (zt 1)), zr 24 (.bin .eql (zt 23) (zi 6))])
  (.cond (zt 24)
  (.seq (.run [zr 25 (.bld [(.int .i64 0), (.int .u64 0), (.int .u64 0), (.int .u64 0), (.int .u64 0), (.slice none 0 0)] []), zr 26 (.mv (zt 0)), zc 27 87 [(zt 26)], ze (.st 6 (zt 4) (zt 25)), za 5 (zt 27)])
  .ret)
  .skip))
  rc122_2)
  (.seq (.run [zr 64 (.bin .eql (zt 20) (.const (.int .u8 91))), za 63 (zt 64)])
  (.cond (zt 63)
  (.seq (.run [zr 65 (.mv (zt 0)), zc 66 127 [(zt 65)], zr 67 (.ext 0 (zt 66)), zr 68 (.ext 1 (zt 66)), ze (.st 6 (zt 4) (zt 67)), za 5 (zt 68)])
  .ret)
  (.seq (.run [zr 70 (.bin .eql (zt 20) (.const (.int .u8 46))), za 69 (zt 70)])
  (.cond (zt 69)
  (.seq (.run [zr 71 (.mv (zt 0)), zr 72 (.nck (zt 71)), zr 73 (.fa 1 (zt 72)), zr 74 (.ld (zt 73)), zr 75 (.bin .add (zt 74) (zi 1)), zr 76 (.nck (zt 71)), zr 77 (.fa 1 (zt 76)), ze (.st 1 (zt 77) (zt 75))])
  (.seq (.run [zr 78 (.bld [(.int .u64 0), (.int .u64 0), (.int .u64 0), (.int .u64 0)] []), zc 79 70 [(zt 78)], zr 80 (.bld [(.int .i64 0), (.int .u64 0), (.int .u64 0), (.int .u64 0), (.int .u64 0), (.slice none 0 0)] [(0, 1, (zi 1)), (1, 4, (zt 79))]), ze (.st 6 (zt 4) (zt 80)), za 5 (.const .nilIface)])
  .ret))
  (.seq (.seq (.run [zr 82 (.bin .eql (zt 20) (.const (.int .u8 42))), za 81 (zt 82)])
  (.cond (zt 81)
  .skip
  (.seq (.run [zr 83 (.bin .eql (zt 20) (.const (.int .u8 43))), za 81 (zt 83)])
  (.cond (zt 81)
  .skip
  (.seq (.run [zr 84 (.bin .eql (zt 20) (.const (.int .u8 63))), za 81 (zt 84)])
  (.cond (zt 81)
  .skip
  (.run [zr 85 (.bin .eql (zt 20) (.const (.int .u8 93))), za 81 (zt 85)])))))))
  rc122_3))))))))))
  rc122_5))
def ce122 : List (Nat × List Nat × List Nat) := [(1, [0, 1, 2, 3, 4, 5, 6, 7, 8, 9], [0, 1, 3, 7, 0, 16, 48, 112, 255, 511])]
def ro122 : List RO := [(.ldn 6 (zt 4)), (.mv (zt 5))]
theorem ok122 : okFn Tryz.prog 122 102 ce122 = some (rc122, ro122) := by kernel_rfl
def rc123_0 : RC := (.seq (.run [zr 7 (.mv (zt 0)), zr 8 (.lens (zt 7)), zf 9 (.mks 5 1 (.int .u8 0) (zt 8) (zt 8)), za 3 (zt 9)])
  (.seq (.run [zr 10 (.mv (zt 3)), zr 11 (.mv (zt 0)), zf 12 (.cpy 1 (zt 10) (zt 11))])
  (.seq (.run [zr 13 (.mv (zt 3)), zr 14 (.ia 1 (zt 13) (zi 0)), zr 15 (.mv (zt 3)), zr 16 (.lenl (zt 15)), zf 17 (.ust 5 (zt 14) (zt 16)), za 2 (zt 17)])
  .ret)))
def rc123 : RC := (.seq (.run [za 2 (.const (.string ⟨#[]⟩))])
  (.seq (.seq (.run [zr 4 (.mv (zt 0)), zr 5 (.lens (zt 4)), zr 6 (.bin .eql (zt 5) (zi 0))])
  (.cond (zt 6)
  (.seq (.run [za 2 (.const (.string ⟨#[]⟩))])
  .ret)
  .skip))
  rc123_0))
def ce123 : List (Nat × List Nat × List Nat) := []
def ro123 : List RO := [(.mv (zt 2))]
theorem ok123 : okFn Tryz.prog 123 18 ce123 = some (rc123, ro123) := by kernel_rfl
def rc124 : RC := (.seq (.run [za 2 (.const .nilIface)])
  (.seq (.run [zr 3 (.mv (zt 0)), zr 4 (.bld [(.string ⟨#[]⟩)] [(0, 1, (zt 3))]), zf 5 (.bx 226 (zt 4)), zr 6 (.mki 224 (zt 5)), za 2 (zt 6)])
  .ret))
def ce124 : List (Nat × List Nat × List Nat) := []
def ro124 : List RO := [(.mv (zt 2))]
theorem ok124 : okFn Tryz.prog 124 7 ce124 = some (rc124, ro124) := by kernel_rfl
def rc125_0 : RC := (.seq (.run [zr 5 (.mv (zt 0)), zr 6 (.mv (zt 0)), zr 7 (.neg (zt 6)), zr 8 (.bin .and (zt 5) (zt 7)), zr 9 (.bin .mul (zt 8) (.const (.int .u32 125613361))), zr 10 (.bin .shr (zt 9) (.const (.int .u64 27))), zr 11 (.iaa 32 1 (.global 5) (zt 10)), zr 12 (.ld (zt 11)), zr 13 (.cvi .i64 (zt 12)), za 2 (zt 13)])
  .ret)
def rc125 : RC := (.seq (.run [za 2 (zi 0)])
  (.seq (.seq (.run [zr 3 (.mv (zt 0)), zr 4 (.bin .eql (zt 3) (.const (.int .u32 0)))])
  (.cond (zt 4)
  (.seq (.run [za 2 (zi 32)])
  .ret)
  .skip))
  rc125_0))
def ce125 : List (Nat × List Nat × List Nat) := []
def ro125 : List RO := [(.mv (zt 2))]
theorem ok125 : okFn Tryz.prog 125 14 ce125 = some (rc125, ro125) := by kernel_rfl
def rc126_0 : RC := (.seq (.run [zr 5 (.mv (zt 0)), zr 6 (.mv (zt 0)), zr 7 (.neg (zt 6)), zr 8 (.bin .and (zt 5) (zt 7)), zr 9 (.bin .mul (zt 8) (.const (.int .u64 285870213051353865))), zr 10 (.bin .shr (zt 9) (.const (.int .u64 58))), zr 11 (.iaa 64 1 (.global 6) (zt 10)), zr 12 (.ld (zt 11)), zr 13 (.cvi .i64 (zt 12)), za 2 (zt 13)])
  .ret)
def rc126 : RC := (.seq (.run [za 2 (zi 0)])
  (.seq (.seq (.run [zr 3 (.mv (zt 0)), zr 4 (.bin .eql (zt 3) (.const (.int .u64 0)))])
  (.cond (zt 4)
  (.seq (.run [za 2 (zi 64)])
  .ret)
  .skip))
  rc126_0))
def ce126 : List (Nat × List Nat × List Nat) := []
def ro126 : List RO := [(.mv (zt 2))]
theorem ok126 : okFn Tryz.prog 126 14 ce126 = some (rc126, ro126) := by kernel_rfl
def rc127_0 : RC := (.seq (.block 3 (.run [zr 91 (.ldn 4 (zt 6)), zr 92 (.mv (zt 10)), zr 93 (.cvi .u8 (zt 92)), zc 94 71 [(zt 91), (zt 93)], ze (.st 4 (zt 6) (zt 94))]))
  (.run [zr 89 (.mv (zt 10)), zr 90 (.bin .add (zt 89) (zi 1)), za 10 (zt 90)]))
def rc127_1 : RC := (.seq (.seq (.run [zr 85 (.mv (zt 10)), zr 86 (.mv (zt 9)), zr 87 (.cvi .i64 (zt 86)), zr 88 (.bin .leq (zt 85) (zt 87))])
  (.cond (zt 88)
  .skip
  (.exit 2)))
  rc127_0)
def rc127_2 : RC := (.seq (.run [zr 83 (.mv (zt 7)), zr 84 (.cvi .i64 (zt 83)), za 10 (zt 84)])
  (.block 2 (.loop rc127_1)))
def rc127_3 : RC := (.seq (.run [zr 45 (.mv (zt 7)), za 9 (zt 45)])
  (.seq (.seq (.run [zr 46 (.mv (zt 0)), zc 47 96 [(zt 46), (.const (.int .u8 45))], zr 48 (.mv (zt 47)), zg 49 48 true (.mv (zt 0)), zg 50 48 true (.nck (zt 49)), zg 51 48 true (.fa 0 (zt 50)), zg 52 48 true (.ld (zt 51)), zg 53 48 true (.mv (zt 0)), zg 54 48 true (.nck (zt 53)), zg 55 48 true (.fa 1 (zt 54)), zg 56 48 true (.ld (zt 55)), zg 57 48 true (.sls (zt 52) (some (zt 56)) none), ⟨(some 58), (some (48, true)), (.c (.fn 89 [(zt 57), (.const (.string ⟨#[45, 93]⟩))])), []⟩, zg 59 48 true (.not (zt 58)), zr 60 (.pick (zt 48) (zt 59) (.const (.bool false)))])
  (.cond (zt 60)
  (.seq (.run [zr 61 (.mv (zt 0)), zr 62 (.nck (zt 61)), zr 63 (.fa 1 (zt 62)), zr 64 (.ld (zt 63)), zr 65 (.bin .add (zt 64) (zi 1)), zr 66 (.nck (zt 61)), zr 67 (.fa 1 (zt 66)), ze (.st 1 (zt 67) (zt 65))])
  (.seq (.run [zr 69 (.mv (zt 0)), zc 70 128 [(zt 69)], zr 68 (.mv (zt 70)), zr 71 (.ext 0 (zt 68)), zr 72 (.ext 1 (zt 68)), za 9 (zt 71), za 8 (zt 72)])
  (.seq (.run [zr 73 (.mv (zt 8)), zr 74 (.eq true (.iface []) (zt 73) (.const .nilIface)), zr 75 (.mv (zt 74)), zg 76 75 false (.mv (zt 9)), zg 77 75 false (.mv (zt 7)), zg 78 75 false (.bin .lss (zt 76) (zt 77)), zr 79 (.pick (zt 75) (.const (.bool true)) (zt 78))])
  (.cond (zt 79)
  (.seq (.run [zr 80 (.bld [(.int .i64 0), (.int .u64 0), (.int .u64 0), (.int .u64 0), (.int .u64 0), (.slice none 0 0)] []), zr 81 (.mv (zt 4)), zc 82 47 [(zi 8), (zt 81)], ze (.st 6 (zt 2) (zt 80)), za 3 (zt 82)])
  .ret)
  .skip))))
  .skip))
  rc127_2))
def rc127_4 : RC := (.block 1 (.seq (.run [zr 36 (.mv (zt 0)), zc 37 128 [(zt 36)], zr 35 (.mv (zt 37)), zr 38 (.ext 0 (zt 35)), zr 39 (.ext 1 (zt 35)), za 7 (zt 38), za 8 (zt 39)])
  (.seq (.seq (.run [zr 40 (.mv (zt 8)), zr 41 (.eq true (.iface []) (zt 40) (.const .nilIface))])
  (.cond (zt 41)
  (.seq (.run [zr 42 (.bld [(.int .i64 0), (.int .u64 0), (.int .u64 0), (.int .u64 0), (.int .u64 0), (.slice none 0 0)] []), zr 43 (.mv (zt 4)), zc 44 47 [(zi 8), (zt 43)], ze (.st 6 (zt 2) (zt 42)), za 3 (zt 44)])
  .ret)
  .skip))
  rc127_3)))
def rc127_5 : RC := (.seq (.seq (.run [zr 32 (.mv (zt 0)), zc 33 96 [(zt 32), (.const (.int .u8 93))], zr 34 (.not (zt 33))])
  (.cond (zt 34)
  .skip
  (.exit 0)))
  rc127_4)
def rc127_6 : RC := (.seq (.run [zr 105 (.ldn 4 (zt 6)), zr 106 (.bld [(.int .i64 0), (.int .u64 0), (.int .u64 0), (.int .u64 0), (.int .u64 0), (.slice none 0 0)] [(0, 1, (zi 1)), (1, 4, (zt 105))]), ze (.st 6 (zt 2) (zt 106)), za 3 (.const .nilIface)])
  .ret)
def rc127_7 : RC := (.seq (.run [zr 95 (.mv (zt 0)), zr 96 (.nck (zt 95)), zr 97 (.fa 1 (zt 96)), zr 98 (.ld (zt 97)), zr 99 (.bin .add (zt 98) (zi 1)), zr 100 (.nck (zt 95)), zr 101 (.fa 1 (zt 100)), ze (.st 1 (zt 101) (zt 99))])
  (.seq (.seq (.run [zr 102 (.mv (zt 5))])
  (.cond (zt 102)
  (.run [zr 103 (.ldn 4 (zt 6)), zc 104 70 [(zt 103)], ze (.st 4 (zt 6) (zt 104))])
  .skip))
  rc127_6))
def rc127_8 : RC := (.seq (.run [zf 6 (.al [(.int .u64 0), (.int .u64 0), (.int .u64 0), (.int .u64 0)] 73)])
  (.seq (.block 0 (.loop rc127_5))
  rc127_7))
def rc127 : RC := (.seq (.run [zf 2 (.al [(.int .i64 0), (.int .u64 0), (.int .u64 0), (.int .u64 0), (.int .u64 0), (.slice none 0 0)] 76), za 3 (.const .nilIface)])
  (.seq (.run [zr 11 (.mv (zt 0)), zr 12 (.nck (zt 11)), zr 13 (.fa 1 (zt 12)), zr 14 (.ld (zt 13)), za 4 (zt 14)])
  (.seq (.run [zr 15 (.mv (zt 0)), zr 16 (.nck (zt 15)), zr 17 (.fa 1 (zt 16)), zr 18 (.ld (zt 17)), zr 19 (.bin .add (zt 18) (zi 1)), zr 20 (.nck (zt 15)), zr 21 (.fa 1 (zt 20)), ze (.st 1 (zt 21) (zt 19))])
  (.seq (.run [zr 22 (.mv (zt 0)), zc 23 96 [(zt 22), (.const (.int .u8 94))], za 5 (zt 23)])
  (.seq (.seq (.run [zr 24 (.mv (zt 5))])
  (.cond (zt 24)
  (.run [zr 25 (.mv (zt 0)), zr 26 (.nck (zt 25)), zr 27 (.fa 1 (zt 26)), zr 28 (.ld (zt 27)), zr 29 (.bin .add (zt 28) (zi 1)), zr 30 (.nck (zt 25)), zr 31 (.fa 1 (zt 30)), ze (.st 1 (zt 31) (zt 29))])
  .skip))
  rc127_8)))))
def ce127 : List (Nat × List Nat × List Nat) := [(12, [0, 1, 2, 3, 4, 5, 6, 7, 8, 9, 10, 11, 12, 13, 14], [0, 1, 3, 7, 15, 31, 63, 7, 135, 391, 903, 2047, 4095, 8191, 16383])]
def ro127 : List RO := [(.ldn 6 (zt 2)), (.mv (zt 3))]
theorem ok127 : okFn Tryz.prog 127 107 ce127 = some (rc127, ro127) := by kernel_rfl
def rc128_0 : RC := (.seq (.run [zr 34 (.mv (zt 0)), zr 35 (.nck (zt 34)), zr 36 (.fa 1 (zt 35)), zr 37 (.ld (zt 36)), zr 38 (.bin .add (zt 37) (zi 1)), zr 39 (.nck (zt 34)), zr 40 (.fa 1 (zt 39)), ze (.st 1 (zt 40) (zt 38))])
  (.run [zr 41 (.mv (zt 0)), zr 42 (.nck (zt 41)), zr 43 (.fa 0 (zt 42)), zr 44 (.ld (zt 43)), zr 45 (.mv (zt 0)), zr 46 (.nck (zt 45)), zr 47 (.fa 1 (zt 46)), zr 48 (.ld (zt 47)), zr 49 (.ixs (zt 44) (zt 48)), za 4 (zt 49)]))
def rc128_1 : RC := (.seq (.run [zr 50 (.mv (zt 0)), zr 51 (.nck (zt 50)), zr 52 (.fa 1 (zt 51)), zr 53 (.ld (zt 52)), zr 54 (.bin .add (zt 53) (zi 1)), zr 55 (.nck (zt 50)), zr 56 (.fa 1 (zt 55)), ze (.st 1 (zt 56) (zt 54))])
  (.seq (.run [zr 57 (.mv (zt 4)), za 2 (zt 57), za 3 (.const .nilIface)])
  .ret))
def rc128_2 : RC := (.seq (.run [zr 10 (.mv (zt 0)), zr 11 (.nck (zt 10)), zr 12 (.fa 0 (zt 11)), zr 13 (.ld (zt 12)), zr 14 (.mv (zt 0)), zr 15 (.nck (zt 14)), zr 16 (.fa 1 (zt 15)), zr 17 (.ld (zt 16)), zr 18 (.ixs (zt 13) (zt 17)), za 4 (zt 18)])
  (.seq (.seq (.run [zr 19 (.mv (zt 4)), zr 20 (.bin .eql (zt 19) (.const (.int .u8 92)))])
  (.cond (zt 20)
  (.seq (.seq (.run [zr 21 (.mv (zt 0)), zr 22 (.nck (zt 21)), zr 23 (.fa 1 (zt 22)), zr 24 (.ld (zt 23)), zr 25 (.bin .add (zt 24) (zi 1)), zr 26 (.mv (zt 0)), zr 27 (.nck (zt 26)), zr 28 (.fa 0 (zt 27)), zr 29 (.ld (zt 28)), zr 30 (.lens (zt 29)), zr 31 (.bin .eql (zt 25) (zt 30))])
  (.cond (zt 31)
  (.seq (.run [zr 32 (.mv (zt 0)), zc 33 87 [(zt 32)], za 2 (.const (.int .u8 0)), za 3 (zt 33)])
  .ret)
  .skip))
  rc128_0)
  .skip))
  rc128_1))
def rc128 : RC := (.seq (.run [za 2 (.const (.int .u8 0)), za 3 (.const .nilIface)])
  (.seq (.seq (.run [zr 5 (.mv (zt 0)), zc 6 86 [(zt 5)], zr 7 (.not (zt 6))])
  (.cond (zt 7)
  (.seq (.run [zr 8 (.mv (zt 0)), zc 9 87 [(zt 8)], za 2 (.const (.int .u8 0)), za 3 (zt 9)])
  .ret)
  .skip))
  rc128_2))
def ce128 : List (Nat × List Nat × List Nat) := [(3, [0, 1, 2, 3, 4, 5, 6, 7, 8, 9], [0, 1, 3, 7, 0, 16, 48, 112, 255, 511]), (5, [0, 1, 2, 3, 4, 5, 6, 7, 8, 9, 10], [0, 1, 3, 7, 15, 0, 32, 96, 224, 480, 1023]), (8, [0, 1, 2, 3, 4, 5, 6, 7, 8, 9], [0, 1, 3, 7, 0, 16, 48, 112, 255, 511])]
def ro128 : List RO := [(.mv (zt 2)), (.mv (zt 3))]
theorem ok128 : okFn Tryz.prog 128 58 ce128 = some (rc128, ro128) := by kernel_rfl
end Go.Proofs.YtjlicambfepfiaaGreatDoor.Ab

set_option maxRecDepth 20000
namespace Go.Proofs.YtjlicambfepfiaaGreatDoor.Ab
open Go Go.RowKit
def tab : List TE := [⟨14, 24, rc14, ro14⟩, ⟨18, 53, rc18, ro18⟩, ⟨19, 8, rc19, ro19⟩, ⟨24, 47, rc24, ro24⟩, ⟨25, 26, rc25, ro25⟩, ⟨26, 7, rc26, ro26⟩, ⟨27, 45, rc27, ro27⟩, ⟨28, 7, rc28, ro28⟩, ⟨30, 62, rc30, ro30⟩, ⟨32, 107, rc32, ro32⟩, ⟨35, 75, rc35, ro35⟩, ⟨36, 103, rc36, ro36⟩, ⟨37, 42, rc37, ro37⟩, ⟨40, 14, rc40, ro40⟩, ⟨42, 51, rc42, ro42⟩, ⟨43, 13, rc43, ro43⟩, ⟨44, 67, rc44, ro44⟩, ⟨45, 55, rc45, ro45⟩, ⟨47, 9, rc47, ro47⟩, ⟨48, 59, rc48, ro48⟩, ⟨49, 50, rc49, ro49⟩, ⟨50, 39, rc50, ro50⟩, ⟨51, 2, rc51, ro51⟩, ⟨52, 36, rc52, ro52⟩, ⟨53, 32, rc53, ro53⟩, ⟨54, 8, rc54, ro54⟩, ⟨58, 62, rc58, ro58⟩, ⟨59, 20, rc59, ro59⟩, ⟨61, 5, rc61, ro61⟩, ⟨62, 17, rc62, ro62⟩, ⟨63, 108, rc63, ro63⟩, ⟨64, 84, rc64, ro64⟩, ⟨65, 34, rc65, ro65⟩, ⟨66, 33, rc66, ro66⟩, ⟨67, 92, rc67, ro67⟩, ⟨68, 7, rc68, ro68⟩, ⟨70, 15, rc70, ro70⟩, ⟨71, 15, rc71, ro71⟩, ⟨72, 9, rc72, ro72⟩, ⟨73, 33, rc73, ro73⟩, ⟨74, 9, rc74, ro74⟩, ⟨75, 59, rc75, ro75⟩, ⟨76, 61, rc76, ro76⟩, ⟨77, 8, rc77, ro77⟩, ⟨83, 5, rc83, ro83⟩, ⟨84, 14, rc84, ro84⟩, ⟨85, 43, rc85, ro85⟩, ⟨86, 13, rc86, ro86⟩, ⟨87, 8, rc87, ro87⟩, ⟨88, 132, rc88, ro88⟩, ⟨89, 8, rc89, ro89⟩, ⟨90, 26, rc90, ro90⟩, ⟨91, 8, rc91, ro91⟩, ⟨92, 8, rc92, ro92⟩, ⟨94, 54, rc94, ro94⟩, ⟨95, 40, rc95, ro95⟩, ⟨96, 20, rc96, ro96⟩, ⟨97, 27, rc97, ro97⟩, ⟨98, 26, rc98, ro98⟩, ⟨99, 7, rc99, ro99⟩, ⟨100, 18, rc100, ro100⟩, ⟨101, 172, rc101, ro101⟩, ⟨102, 43, rc102, ro102⟩, ⟨103, 32, rc103, ro103⟩, ⟨106, 15, rc106, ro106⟩, ⟨107, 15, rc107, ro107⟩, ⟨108, 167, rc108, ro108⟩, ⟨109, 102, rc109, ro109⟩, ⟨110, 60, rc110, ro110⟩, ⟨111, 5, rc111, ro111⟩, ⟨112, 94, rc112, ro112⟩, ⟨113, 11, rc113, ro113⟩, ⟨114, 11, rc114, ro114⟩, ⟨115, 16, rc115, ro115⟩, ⟨116, 16, rc116, ro116⟩, ⟨117, 6, rc117, ro117⟩, ⟨118, 25, rc118, ro118⟩, ⟨119, 4, rc119, ro119⟩, ⟨120, 8, rc120, ro120⟩, ⟨121, 8, rc121, ro121⟩, ⟨122, 102, rc122, ro122⟩, ⟨123, 18, rc123, ro123⟩, ⟨124, 7, rc124, ro124⟩, ⟨125, 14, rc125, ro125⟩, ⟨126, 14, rc126, ro126⟩, ⟨127, 107, rc127, ro127⟩, ⟨128, 58, rc128, ro128⟩]
theorem tab_ok : TOk Tryz.prog tab := by
  intro t ht
  simp only [tab, List.mem_cons, List.mem_nil_iff, or_false] at ht
  rcases ht with rfl | rfl | rfl | rfl | rfl | rfl | rfl | rfl | rfl | rfl | rfl | rfl | rfl | rfl | rfl | rfl | rfl | rfl | rfl | rfl | rfl | rfl | rfl | rfl | rfl | rfl | rfl | rfl | rfl | rfl | rfl | rfl | rfl | rfl | rfl | rfl | rfl | rfl | rfl | rfl | rfl | rfl | rfl | rfl | rfl | rfl | rfl | rfl | rfl | rfl | rfl | rfl | rfl | rfl | rfl | rfl | rfl | rfl | rfl | rfl | rfl | rfl | rfl | rfl | rfl | rfl | rfl | rfl | rfl | rfl | rfl | rfl | rfl | rfl | rfl | rfl | rfl | rfl | rfl | rfl | rfl | rfl | rfl | rfl | rfl | rfl | rfl
  · exact ⟨_, ok14⟩
  · exact ⟨_, ok18⟩
  · exact ⟨_, ok19⟩
  · exact ⟨_, ok24⟩
  · exact ⟨_, ok25⟩
  · exact ⟨_, ok26⟩
  · exact ⟨_, ok27⟩
  · exact ⟨_, ok28⟩
  · exact ⟨_, ok30⟩
  · exact ⟨_, ok32⟩
  · exact ⟨_, ok35⟩
  · exact ⟨_, ok36⟩
  · exact ⟨_, ok37⟩
  · exact ⟨_, ok40⟩
  · exact ⟨_, ok42⟩
  · exact ⟨_, ok43⟩
  · exact ⟨_, ok44⟩
  · exact ⟨_, ok45⟩
  · exact ⟨_, ok47⟩
  · exact ⟨_, ok48⟩
  · exact ⟨_, ok49⟩
  · exact ⟨_, ok50⟩
  · exact ⟨_, ok51⟩
  · exact ⟨_, ok52⟩
  · exact ⟨_, ok53⟩
  · exact ⟨_, ok54⟩
  · exact ⟨_, ok58⟩
  · exact ⟨_, ok59⟩
  · exact ⟨_, ok61⟩
  · exact ⟨_, ok62⟩
  · exact ⟨_, ok63⟩
  · exact ⟨_, ok64⟩
  · exact ⟨_, ok65⟩
  · exact ⟨_, ok66⟩
  · exact ⟨_, ok67⟩
  · exact ⟨_, ok68⟩
  · exact ⟨_, ok70⟩
  · exact ⟨_, ok71⟩
  · exact ⟨_, ok72⟩
  · exact ⟨_, ok73⟩
  · exact ⟨_, ok74⟩
  · exact ⟨_, ok75⟩
  · exact ⟨_, ok76⟩
  · exact ⟨_, ok77⟩
  · exact ⟨_, ok83⟩
  · exact ⟨_, ok84⟩
  · exact ⟨_, ok85⟩
  · exact ⟨_, ok86⟩
  · exact ⟨_, ok87⟩
  · exact ⟨_, ok88⟩
  · exact ⟨_, ok89⟩
  · exact ⟨_, ok90⟩
  · exact ⟨_, ok91⟩
  · exact ⟨_, ok92⟩
  · exact ⟨_, ok94⟩
  · exact ⟨_, ok95⟩
  · exact ⟨_, ok96⟩
  · exact ⟨_, ok97⟩
  · exact ⟨_, ok98⟩
  · exact ⟨_, ok99⟩
  · exact ⟨_, ok100⟩
  · exact ⟨_, ok101⟩
  · exact ⟨_, ok102⟩
  · exact ⟨_, ok103⟩
  · exact ⟨_, ok106⟩
  · exact ⟨_, ok107⟩
  · exact ⟨_, ok108⟩
  · exact ⟨_, ok109⟩
  · exact ⟨_, ok110⟩
  · exact ⟨_, ok111⟩
  · exact ⟨_, ok112⟩
  · exact ⟨_, ok113⟩
  · exact ⟨_, ok114⟩
  · exact ⟨_, ok115⟩
  · exact ⟨_, ok116⟩
  · exact ⟨_, ok117⟩
  · exact ⟨_, ok118⟩
  · exact ⟨_, ok119⟩
  · exact ⟨_, ok120⟩
  · exact ⟨_, ok121⟩
  · exact ⟨_, ok122⟩
  · exact ⟨_, ok123⟩
  · exact ⟨_, ok124⟩
  · exact ⟨_, ok125⟩
  · exact ⟨_, ok126⟩
  · exact ⟨_, ok127⟩
  · exact ⟨_, ok128⟩
theorem fnd81 : Extern.findNext Tryz.f81 = none := by kernel_rfl
theorem xis81 : xIs Tryz.prog 81 .same := ⟨Tryz.f81, _, Tryz.func81, by kernel_rfl, by kernel_rfl, fnd81, (by kernel_rfl : Extern.find Tryz.f81 = some Extern.AbiNoEscape.same), rfl⟩
theorem fnd105 : Extern.findNext Tryz.f105 = none := by kernel_rfl
theorem xis105 : xIs Tryz.prog 105 (.mnz 5) := ⟨Tryz.f105, _, Tryz.func105, by kernel_rfl, by kernel_rfl, fnd105, (by kernel_rfl : Extern.find Tryz.f105 = some (Extern.BytealgMakeNoZero.makeNoZero #[3] #[51])), _, _, rfl, by kernel_rfl⟩
theorem fnd104 : Extern.findNext Tryz.f104 = none := by kernel_rfl
theorem xis104 : xIs Tryz.prog 104 .idx := ⟨Tryz.f104, _, Tryz.func104, by kernel_rfl, by kernel_rfl, fnd104, (by kernel_rfl : Extern.find Tryz.f104 = some Extern.BytealgIndexByte.indexByte), rfl⟩
def xs : List (FuncId × XK) := [(81, .same), (105, .mnz 5), (104, .idx)]
theorem xs_ok : XOk Tryz.prog (xCall xs) := xCall_ok (by
  intro x hx
  simp only [xs, List.mem_cons, List.mem_nil_iff, or_false] at hx
  rcases hx with rfl | rfl | rfl
  · exact xis81
  · exact xis105
  · exact xis104)
end Go.Proofs.YtjlicambfepfiaaGreatDoor.Ab

set_option linter.unusedVariables false
set_option linter.unusedSimpArgs false
set_option maxHeartbeats 4000000
set_option maxRecDepth 100000
namespace Go.Proofs.YtjlicambfepfiaaGreatDoor.Ab
open Go Go.RowKit
def z32 : List Int := [0, 1, 28, 2, 29, 14, 24, 3, 30, 22, 20, 15, 25, 17, 4, 8, 31, 27, 13, 23, 21, 19, 16, 7, 26, 12, 18, 6, 11, 5, 10, 9]
def z64 : List Int := [0, 1, 56, 2, 57, 49, 28, 3, 61, 58, 42, 50, 38, 29, 17, 4, 62, 47, 59, 36, 45, 43, 51, 22, 53, 39, 33, 30, 24, 18, 12, 5, 63, 55, 48, 27, 60, 41, 37, 16, 46, 35, 44, 21, 52, 32, 23, 11, 54, 26, 40, 15, 34, 20, 31, 10, 25, 14, 19, 9, 13, 8, 7, 6]
def z10 : List Int := [1, 10, 100, 1000, 10000, 100000, 1000000, 10000000, 100000000, 1000000000, 10000000000, 100000000000, 1000000000000, 10000000000000, 100000000000000, 1000000000000000, 10000000000000000, 100000000000000000, 1000000000000000000, 10000000000000000000]
def e32 : List Value := z32.map fun z => .int .u8 z
def e64 : List Value := z64.map fun z => .int .u8 z
def e10 : List Value := z10.map fun z => .int .u64 z
def gs0 : List (Nat × List Value) := [(5, e32), (6, e64), (2, e10)]
def L0 : LM := ⟨7, (.n (.n (.n (.n (.n .dead .dead (.ro e10) .dead .dead (.ro e32) (.ro e64) .dead) .e .e .e .e .e .e .e) .e .e .e .e .e .e .e) .e .e .e .e .e .e .e) .e .e .e .e .e .e .e)⟩
theorem globals_size : Tryz.prog.globals.size = L0.n := by kernel_rfl
theorem L0_get (i : Nat) : L0.get i = entOf gs0 i := by
  by_cases h : i < 7
  · have : i = 0 ∨ i = 1 ∨ i = 2 ∨ i = 3 ∨ i = 4 ∨ i = 5 ∨ i = 6 := by omega
    rcases this with rfl | rfl | rfl | rfl | rfl | rfl | rfl <;> rfl
  · rw [LM.get_ge h]
    have n5 : (i == 5) = false := by simp; omega
    have n6 : (i == 6) = false := by simp; omega
    have n2 : (i == 2) = false := by simp; omega
    simp [entOf, gs0, List.lookup_cons, n5, n6, n2]
theorem laid_ok : laidB Tryz.prog gs0 = true := by kernel_rfl
theorem L0_part : partB L0 = true := by kernel_rfl
theorem laidIn {W : World} {l : List (String × DataW Unit)} (h : laidMet Tryz.prog l W) (h1 : ("math/bits.deBruijn32tab", Lib.tabData .u8 z32) ∈ l) (h2 : ("math/bits.deBruijn64tab", Lib.tabData .u8 z64) ∈ l) (h3 : ("internal/strconv.uint64pow10", Lib.tabData .u64 z10) ∈ l) : LaidIn Tryz.prog W gs0 where
  cell := by
    intro x hx
    simp only [gs0, List.mem_cons, List.mem_nil_iff, or_false] at hx
    rcases hx with rfl | rfl | rfl
    · exact laid_tab h h1 (by kernel_rfl) (by kernel_rfl) Tryz.underlying227 Tryz.underlying5 (by kernel_rfl) (by kernel_rfl)
    · exact laid_tab h h2 (by kernel_rfl) (by kernel_rfl) Tryz.underlying228 Tryz.underlying5 (by kernel_rfl) (by kernel_rfl)
    · exact laid_tab h h3 (by kernel_rfl) (by kernel_rfl) Tryz.underlying211 Tryz.underlying71 (by kernel_rfl) (by kernel_rfl)
end Go.Proofs.YtjlicambfepfiaaGreatDoor.Ab

set_option linter.unusedVariables false
set_option linter.unusedSimpArgs false
namespace Go.Proofs.YtjlicambfepfiaaGreatDoor.Ab
open Go Go.RowKit
set_option maxHeartbeats 4000000
set_option maxRecDepth 100000
theorem closed {w0 : World} {m : Mem} {f : FuncId} {args : List Value} {v : Value} {Q : Value → Mem → Prop} {n : Nat} (hp : Part L0 m) (ha : args.all (plainV 6) = true) (h : outIs v (callE tab (xCall xs) Tryz.prog n f args L0) = true) (hv : plainV 6 v = true) (hq : Q v m) : AbC Tryz.prog w0 f args m Q :=
  AbC_run n tab_ok xs_ok hp (Nat.le_of_eq globals_size) ha h hv hq
/-- The sign of a digit. -/
def digC (d : Nat) : UInt8 := if d < 10 then UInt8.ofNat (48 + d) else UInt8.ofNat (87 + d)
/-- A number's digits in a base. -/
def digs (b n : Nat) : List UInt8 := if h : n < b ∨ b < 2 then [digC n] else digs b (n / b) ++ [digC (n % b)]
termination_by n
decreasing_by exact Nat.div_lt_self (by omega) (by omega)
end Go.Proofs.YtjlicambfepfiaaGreatDoor.Ab

set_option linter.unusedVariables false
set_option linter.unusedSimpArgs false
namespace Go.Proofs.YtjlicambfepfiaaGreatDoor.Ab
open Go Go.RowKit
set_option maxHeartbeats 4000000
set_option maxRecDepth 100000
/-- A builder in block i that holds these bytes: it and its row lie behind what was there. -/
def Bld (base m : Mem) (i : Nat) (bs : List UInt8) : Prop := Old base m ∧ base.next ≤ i ∧ i < m.next ∧ ∃ pa ob, m.get i = .own [pa, slV ob bs.length 1] 96 ∧ (pa = .pointer none ∨ pa = .pointer (some ⟨i, 0, none⟩)) ∧
  SlO m 5 1 ob (bs.map byteV) bs.length ∧ (bs = [] → ob = none) ∧ ∀ b, ob = some b → base.next ≤ b ∧ b ≠ i
theorem Bld.new {base m : Mem} (h : Old base m) : Bld base (m.push (.own [.pointer none, .slice none 0 0] 96)) m.next [] :=
  ⟨h.push _, h.1, by simp, .pointer none, none, by simp [slV], .inl rfl, ⟨rfl, rfl⟩, fun _ => rfl, fun b hb => by cases hb⟩
/-- More bytes lie behind. -/
theorem Bld.more {base m m1 : Mem} {i : Nat} {bs cs : List UInt8} {pa : Value} {ob : Option Nat} (h : Bld base m i bs) (hn : m1.next = m.next) (hi : m1.get i = .own [.pointer (some ⟨i, 0, none⟩), slV ob bs.length 1] 96)
    (ho : ∀ k, k ≠ i → m1.get k = m.get k) (hob : ∀ b, ob = some b → base.next ≤ b ∧ b ≠ i) (hcs : cs ≠ []) :
    Bld base (((m1.kill ob).push (.own (bs.map byteV ++ cs.map byteV) 5)).set i (.own [.pointer (some ⟨i, 0, none⟩), slV (some m1.next) (bs.length + cs.length) 1] 96)) i (bs ++ cs) := by
  obtain ⟨h1, h2, h3, pa', ob', h4, h5, h6, hz, h7⟩ := h
  have hold : Old base m1 := ⟨by rw [hn]; exact h1.1, fun k hk => by rw [ho k (by omega), h1.2 k hk]⟩
  refine ⟨((hold.kill fun b hb => (hob b hb).1).push _).set h2 _, h2, by simp [Mem.kill_nxt]; omega, _, some m1.next, by simp, .inr rfl, ⟨by simp, ?_⟩, fun hb => absurd (List.append_eq_nil_iff.1 hb).2 hcs, fun b hb => by cases hb; exact ⟨by rw [hn]; exact Nat.le_trans h2 (by omega), by omega⟩⟩
  refine ⟨?_, by simp [Mem.kill_nxt]⟩
  rw [Mem.set_other _ _ (by omega)]
  simp [Mem.push_get, Mem.kill_nxt]
end Go.Proofs.YtjlicambfepfiaaGreatDoor.Ab

set_option linter.unusedVariables false
set_option linter.unusedSimpArgs false
namespace Go.Proofs.YtjlicambfepfiaaGreatDoor.Ab
open Go Go.RowKit
set_option maxHeartbeats 4000000
set_option maxRecDepth 100000
def escC (c : UInt8) : Option (List UInt8) :=
  if c.toNat = 13 then some [92, 114] else if c.toNat = 10 then some [92, 110] else if c.toNat < 32 ∨ 126 < c.toNat then none else if c.toNat = 34 ∨ c.toNat = 92 then some [92, c] else some [c]
def escL : List UInt8 → Option (List UInt8)
  | [] => some []
  | c :: l => match escC c, escL l with
    | some a, some b => some (a ++ b)
    | _, _ => none
end Go.Proofs.YtjlicambfepfiaaGreatDoor.Ab

set_option linter.unusedVariables false
set_option linter.unusedSimpArgs false
namespace Go.Proofs.YtjlicambfepfiaaGreatDoor.Ab
open Go Go.RowKit
set_option maxHeartbeats 4000000
set_option maxRecDepth 100000
/-- A builder that may have an empty row. -/
def BldG (base m : Mem) (i : Nat) (bs : List UInt8) : Prop := Old base m ∧ base.next ≤ i ∧ i < m.next ∧ ∃ pa ob, m.get i = .own [pa, slV ob bs.length 1] 96 ∧ (pa = .pointer none ∨ pa = .pointer (some ⟨i, 0, none⟩)) ∧
  SlO m 5 1 ob (bs.map byteV) bs.length ∧ ∀ b, ob = some b → base.next ≤ b ∧ b ≠ i
theorem Bld.g {base m : Mem} {i : Nat} {bs : List UInt8} (h : Bld base m i bs) : BldG base m i bs :=
  let ⟨a, b, c, pa, ob, d, e, f, _, g⟩ := h; ⟨a, b, c, pa, ob, d, e, f, g⟩
end Go.Proofs.YtjlicambfepfiaaGreatDoor.Ab

set_option linter.unusedVariables false
set_option linter.unusedSimpArgs false
namespace Go.Proofs.YtjlicambfepfiaaGreatDoor.Ab
open Go Go.RowKit
set_option maxHeartbeats 4000000
set_option maxRecDepth 100000
def lowN (c : UInt8) : Nat := Nat.lor c.toNat 32
def dgt (c : UInt8) : Option Nat := if 48 ≤ c.toNat ∧ c.toNat ≤ 57 then some (c.toNat - 48) else if 97 ≤ lowN c ∧ lowN c ≤ 122 then some (lowN c - 97 + 10) else none
def puStep (B M n : Nat) (c : UInt8) : Option Nat := match dgt c with
  | some d => if d < B ∧ n * B + d ≤ M then some (n * B + d) else none
  | none => none
/-- What a text's number is, up to M. -/
def puL (B M : Nat) : Nat → List UInt8 → Option Nat
  | n, [] => some n
  | n, c :: l => match puStep B M n c with
    | some n' => puL B M n' l
    | none => none
end Go.Proofs.YtjlicambfepfiaaGreatDoor.Ab

set_option linter.unusedVariables false
set_option linter.unusedSimpArgs false
namespace Go.Proofs.YtjlicambfepfiaaGreatDoor.Ab
open Go Go.RowKit
set_option maxHeartbeats 4000000
set_option maxRecDepth 100000
theorem St.dead {P : Program} {w0 w : World} {G : Loc} {m : Mem} (h : St P w0 G m w) (x : Nat × Nat × Nat) : Loc.le G (fun i => if i = m.next then some x else G i) ∧ St P w0 (fun i => if i = m.next then some x else G i) (m.push .dead) w := by
  have hle : Loc.le G (fun i => if i = m.next then some x else G i) := by
    intro i y hy
    have := h.dom i y hy
    show (if i = m.next then some x else G i) = some y
    rw [if_neg (by omega)]; exact hy
  refine ⟨hle, h.below, ?_, ?_, ?_, ?_, ?_, ?_⟩
  · intro i y hy
    by_cases hi : i = m.next
    · subst hi; simp
    · simp only [hi, if_false] at hy
      have := h.dom i y hy
      simp; omega
  · intro i B b S hd hx
    by_cases hi : i = m.next
    · subst hi; simp at hd
    · simp only [hi, if_false] at hx
      exact h.lim i B b S (by simpa only [Mem.push_get, hi, if_false] using hd) hx
  · intro i hd
    by_cases hi : i = m.next
    · subst hi; simp at hd
    · simp only [Mem.push_get, hi, if_false] at hd ⊢
      obtain ⟨B, b, S, hg, hr⟩ := h.ent i hd
      exact ⟨B, b, S, hg, hr.mono hle⟩
  · intro i j B y z hi hj gi gj
    have key : ∀ k, ((m.push .dead).get k).mine = true → k ≠ m.next ∧ (m.get k).mine = true := by
      intro k hk
      by_cases e : k = m.next
      · subst e; simp [Ent.mine] at hk
      · exact ⟨e, by simpa only [Mem.push_get, e, if_false] using hk⟩
    obtain ⟨e1, k1⟩ := key i hi
    obtain ⟨e2, k2⟩ := key j hj
    simp only [e1, e2, if_false] at gi gj
    exact h.inj i j B y z k1 k2 gi gj
  · intro g hg
    obtain ⟨S, hS⟩ := h.glob g hg
    exact ⟨S, hle _ _ hS⟩
  · intro i cs e B b S hi hx
    by_cases h1 : i = m.next
    · subst h1; simp at hi
    · simp only [Mem.push_get, h1, if_false] at hi hx
      exact h.ali i cs e B b S hi hx
end Go.Proofs.YtjlicambfepfiaaGreatDoor.Ab

set_option linter.unusedVariables false
set_option linter.unusedSimpArgs false
namespace Go.Proofs.YtjlicambfepfiaaGreatDoor.Ab
open Go Go.RowKit
def isLet (c : UInt8) : Bool := decide (97 ≤ c.toNat) && decide (c.toNat ≤ 122)
def isDig (c : UInt8) : Bool := decide (48 ≤ c.toNat) && decide (c.toNat ≤ 57)
def isHx (c : UInt8) : Bool := decide (97 ≤ c.toNat) && decide (c.toNat ≤ 102)
/-- May a byte stand in a word: at its beginning, behind it? -/
def wq (b : Bool) (c : UInt8) : Bool := isLet c || (b && (isDig c || c.toNat == 45))
def wordN : Bool → List UInt8 → Nat
  | _, [] => 0
  | b, c :: r => if wq b c then wordN true r + 1 else 0
def inB (B : Nat) (c : UInt8) : Bool := isDig c || (B == 16 && isHx c)
def runN (p : UInt8 → Bool) : List UInt8 → Nat
  | [] => 0
  | c :: r => if p c then runN p r + 1 else 0
def hexH : List UInt8 → Bool
  | a :: b :: _ => a.toNat == 48 && b.toNat == 120
  | _ => false
def nB (l : List UInt8) : Nat := if hexH l then 16 else 10
def nF (l : List UInt8) : Nat := if hexH l then 2 else 0
def nN (l : List UInt8) : Nat := nF l + runN (inB (nB l)) (l.drop (nF l))
def nDs (l : List UInt8) : List UInt8 := (l.take (nN l)).drop (nF l)
def numV (l : List UInt8) : Option Nat := match puL (nB l) 4294967295 0 (nDs l) with
  | some v => if digs (nB l) v = nDs l ∧ wordN false (l.drop (nN l)) = 0 then some v else none
  | none => none
def escD (c : UInt8) : Option UInt8 := if c.toNat = 92 then some 92 else if c.toNat = 34 then some 34 else if c.toNat = 114 then some 13 else if c.toNat = 110 then some 10 else none
/-- What stands in quotes, behind the first one: how long it is, and its bytes. -/
def qd : List UInt8 → Option (Nat × List UInt8)
  | [] => none
  | [c] => if c.toNat = 34 then some (1, []) else none
  | c :: e :: r => if c.toNat = 34 then some (1, []) else if c.toNat < 32 ∨ 126 < c.toNat then none
    else if c.toNat = 92 then (match escD e with
      | some x => (qd r).map fun p => (p.1 + 2, x :: p.2)
      | none => none)
    else (qd (e :: r)).map fun p => (p.1 + 1, c :: p.2)
structure Tk where
  kd : Int
  tx : List UInt8
  vl : Int
def Tk.cells (t : Tk) (a : Nat) : List Value := [.int .i64 t.kd, .string ⟨⟨t.tx⟩⟩, .int .i64 t.vl, .int .i64 (a : Int)]
def isSg (c : UInt8) : Bool := c.toNat == 58 || c.toNat == 59 || c.toNat == 44 || c.toNat == 123 || c.toNat == 125
def isBl (c : UInt8) : Bool := c.toNat == 32 || c.toNat == 9 || c.toNat == 10
def oneL : List UInt8 → Option (Tk × Nat)
  | [] => none
  | c :: r => if isLet c then some (⟨1, (c :: r).take (wordN false (c :: r)), 0⟩, wordN false (c :: r))
    else if isDig c then (numV (c :: r)).map fun v => ((⟨2, (c :: r).take (nN (c :: r)), ((v : Nat) : Int)⟩ : Tk), nN (c :: r))
    else if c.toNat = 34 then (qd r).map fun p => (⟨3, p.2, 0⟩, p.1 + 1)
    else if isSg c then some (⟨4, [c], 0⟩, 1) else none
def no10 (c : UInt8) : Bool := c.toNat != 10
def endT : Tk := ⟨0, [], 0⟩
abbrev Cuts := Nat ⊕ List (Tk × Nat)
def preC (ts : List (Tk × Nat)) : Cuts → Cuts
  | .inl e => .inl e
  | .inr us => .inr (ts ++ us)
def cutF : Nat → Nat → List UInt8 → Cuts
  | 0, a, _ => .inr [(endT, a)]
  | _ + 1, a, [] => .inr [(endT, a)]
  | k + 1, a, c :: r => if isBl c then cutF k (a + 1) r
    else if c.toNat = 35 then cutF k (a + runN no10 (c :: r)) ((c :: r).drop (runN no10 (c :: r)))
    else match oneL (c :: r) with
      | none => .inl a
      | some (t, n) => preC [(t, a)] (cutF k (a + n) ((c :: r).drop n))
def cutL (a : Nat) (l : List UInt8) : Cuts := cutF l.length a l
theorem preC_pre (a b : List (Tk × Nat)) (c : Cuts) : preC a (preC b c) = preC (a ++ b) c := by
  cases c <;> simp [preC]
theorem preC_nil (c : Cuts) : preC [] c = c := by cases c <;> rfl
end Go.Proofs.YtjlicambfepfiaaGreatDoor.Ab
set_option linter.unusedVariables false
set_option linter.unusedSimpArgs false
namespace Go.Proofs.YtjlicambfepfiaaGreatDoor.Ab
open Go Go.RowKit
set_option maxHeartbeats 1000000
set_option maxRecDepth 100000
end Go.Proofs.YtjlicambfepfiaaGreatDoor.Ab
set_option linter.unusedVariables false
set_option linter.unusedSimpArgs false
namespace Go.Proofs.YtjlicambfepfiaaGreatDoor.Ab
open Go Go.RowKit
set_option maxHeartbeats 1000000
set_option maxRecDepth 100000
end Go.Proofs.YtjlicambfepfiaaGreatDoor.Ab
set_option linter.unusedVariables false
set_option linter.unusedSimpArgs false
namespace Go.Proofs.YtjlicambfepfiaaGreatDoor.Ab
open Go Go.RowKit
set_option maxHeartbeats 1000000
set_option maxRecDepth 100000
theorem qd_q {c : UInt8} {r : List UInt8} (h : c.toNat = 34) : qd (c :: r) = some (1, []) := by
  cases r <;> simp [qd, h]
theorem qd_ch {c : UInt8} {r : List UInt8} (h : ¬ (c.toNat < 32 ∨ 126 < c.toNat)) (h34 : c.toNat ≠ 34) (h92 : c.toNat ≠ 92) : qd (c :: r) = (qd r).map fun p => (p.1 + 1, c :: p.2) := by
  cases r with
  | nil => simp [qd, h34]
  | cons e r => simp [qd, h, h34, h92]
theorem qd_e2 {c e x : UInt8} {r : List UInt8} (h : c.toNat = 92) (he : escD e = some x) : qd (c :: e :: r) = (qd r).map fun p => (p.1 + 2, x :: p.2) := by simp [qd, h, he]
end Go.Proofs.YtjlicambfepfiaaGreatDoor.Ab
set_option linter.unusedVariables false
set_option linter.unusedSimpArgs false
namespace Go.Proofs.YtjlicambfepfiaaGreatDoor.Ab
open Go Go.RowKit
set_option maxHeartbeats 1000000
set_option maxRecDepth 100000
end Go.Proofs.YtjlicambfepfiaaGreatDoor.Ab
set_option linter.unusedVariables false
set_option linter.unusedSimpArgs false
namespace Go.Proofs.YtjlicambfepfiaaGreatDoor.Ab
open Go Go.RowKit
set_option maxHeartbeats 1000000
set_option maxRecDepth 100000
def cellP (p : Tk × Nat) : List Value := p.1.cells p.2
def faultV (no a : Nat) : Value := .iface 92 (.agg ⟨[.int .i64 (no : Int), .int .i64 (a : Int)]⟩)
/-- The state in which a text is cut further. -/
def CS (S : ByteArray) (b : Mem) (k : Nat) (ts : Fr) (m : Mem) : Prop := ∃ (a : Nat) (out : List (Tk × Nat)) (ob : Option Nat), a + k = S.size ∧ Old b m ∧ ts 0 = .string S ∧ ts 4 = slV ob out.length 4 ∧ ts 5 = .int .i64 (a : Nat) ∧
  SlO m 87 4 ob (out.flatMap cellP) out.length ∧ (∀ i, ob = some i → b.next ≤ i) ∧ out.length ≤ a ∧ cutL 0 S.data.toList = preC out (cutL a (S.data.toList.drop a))
theorem CS.move {S : ByteArray} {b m : Mem} {k k' : Nat} {ts ts' : Fr} {a a' : Nat} {out : List (Tk × Nat)} {ob : Option Nat} (h1 : a + k = S.size) (h2 : Old b m) (h3 : ts 0 = .string S) (h4 : ts 4 = slV ob out.length 4) (h6 : SlO m 87 4 ob (out.flatMap cellP) out.length) (h7 : ∀ i, ob = some i → b.next ≤ i) (h8 : out.length ≤ a)
    (e0 : ts' 0 = ts 0) (e4 : ts' 4 = ts 4) (e5 : ts' 5 = .int .i64 (a' : Nat)) (ha : a ≤ a') (hk : a' + k' = S.size) (hc : cutL 0 S.data.toList = preC out (cutL a' (S.data.toList.drop a'))) : CS S b k' ts' m :=
  ⟨a', out, ob, hk, h2, by rw [e0, h3], by rw [e4, h4], e5, h6, h7, by omega, hc⟩
end Go.Proofs.YtjlicambfepfiaaGreatDoor.Ab

set_option linter.unusedVariables false
set_option linter.unusedSimpArgs false
namespace Go.Proofs.YtjlicambfepfiaaGreatDoor.Ab
open Go Go.RowKit
set_option maxRecDepth 100000
def StrOk (t : List UInt8) : Prop := ∃ e, escL t = some e ∧ ∀ r, qd (e ++ 34 :: r) = some (e.length + 1, t)
theorem strOk_nil : StrOk [] := ⟨[], rfl, fun r => qd_q rfl⟩
theorem esc_round {c : UInt8} {a : List UInt8} (h : escC c = some a) {X : List UInt8} {n : Nat} {t : List UInt8} (hX : qd X = some (n, t)) : qd (a ++ X) = some (n + a.length, c :: t) := by
  unfold escC at h
  split at h
  · rename_i hc
    have : c = 13 := UInt8.toNat_inj.1 hc
    subst this
    cases h
    show qd (92 :: 114 :: X) = _
    rw [qd_e2 rfl (show escD 114 = some 13 from rfl), hX]
    rfl
  · split at h
    · rename_i hc
      have : c = 10 := UInt8.toNat_inj.1 hc
      subst this
      cases h
      show qd (92 :: 110 :: X) = _
      rw [qd_e2 rfl (show escD 110 = some 10 from rfl), hX]
      rfl
    · split at h
      · cases h
      · rename_i hr
        split at h
        · rename_i hc
          cases h
          show qd (92 :: c :: X) = _
          have hd : escD c = some c := by
            rcases hc with hc | hc
            · have : c = 34 := UInt8.toNat_inj.1 hc
              subst this; rfl
            · have : c = 92 := UInt8.toNat_inj.1 hc
              subst this; rfl
          rw [qd_e2 rfl hd, hX]
          rfl
        · rename_i hc
          cases h
          show qd (c :: X) = _
          rw [qd_ch hr (fun e => hc (.inl e)) (fun e => hc (.inr e)), hX]
          rfl
theorem strOk_cons {c : UInt8} {t : List UInt8} (hc : (escC c).isSome = true) (ht : StrOk t) : StrOk (c :: t) := by
  obtain ⟨a, ha⟩ := Option.isSome_iff_exists.1 hc
  obtain ⟨e, he, hq⟩ := ht
  refine ⟨a ++ e, by simp [escL, ha, he], fun r => ?_⟩
  rw [List.append_assoc, esc_round ha (hq r), List.length_append]
  congr 2
  omega
def TkOk (N : Nat) (t : Tk) : Prop := (t.kd = 2 → 0 ≤ t.vl ∧ t.vl ≤ 4294967295) ∧ (t.kd = 3 → StrOk t.tx) ∧ t.tx.length ≤ N
theorem TkOk.mono {N M : Nat} {t : Tk} (h : TkOk N t) (hNM : N ≤ M) : TkOk M t := ⟨h.1, h.2.1, Nat.le_trans h.2.2 hNM⟩
end Go.Proofs.YtjlicambfepfiaaGreatDoor.Ab

set_option linter.unusedVariables false
set_option linter.unusedSimpArgs false
namespace Go.Proofs.YtjlicambfepfiaaGreatDoor.Ab
open Go Go.RowKit
set_option maxRecDepth 100000
def Cx (l : List UInt8) (ts : List Tk) (r : List UInt8) : Prop := ∀ a, ∃ a' us, us.map (·.1) = ts ∧ cutL a l = preC us (cutL a' r)
theorem Cx.refl (l : List UInt8) : Cx l [] l := fun a => ⟨a, [], rfl, (preC_nil _).symm⟩
theorem Cx.trans {l r r' : List UInt8} {ts ts' : List Tk} (h : Cx l ts r) (k : Cx r ts' r') : Cx l (ts ++ ts') r' := fun a => by
  obtain ⟨a1, us, e, h1⟩ := h a
  obtain ⟨a2, vs, e2, h2⟩ := k a1
  exact ⟨a2, us ++ vs, by simp [e, e2], by rw [h1, h2, preC_pre]⟩
end Go.Proofs.YtjlicambfepfiaaGreatDoor.Ab

set_option linter.unusedVariables false
set_option linter.unusedSimpArgs false
namespace Go.Proofs.YtjlicambfepfiaaGreatDoor.Ab
open Go Go.RowKit
set_option maxHeartbeats 1000000
set_option maxRecDepth 100000
theorem getL {L : List Value} {k : Nat} {x : Value} (h : L[k]? = some x) : ∀ hk : k < L.length, L[k]'hk = x := fun hk => by
  rw [List.getElem?_eq_getElem hk] at h
  exact Option.some.inj h
/-- Where a parser is, and what was wrong first. -/
structure PS where
  k : Nat
  err : Option (Nat × Nat)
def errV (e : Option (Nat × Nat)) : Value := match e with
  | none => .nilIface
  | some p => faultV p.1 p.2
/-- The parser lies in a block, over tokens that lie in another. -/
def PsAt (m : Mem) (ip it : Nat) (ts : List (Tk × Nat)) (s : PS) : Prop := m.get ip = .own [.slice (some ⟨it, 0, none⟩) ts.length 4, .int .i64 (s.k : Int), errV s.err] 84 ∧ m.get it = .own (ts.flatMap cellP) 87 ∧ ip < m.next ∧ it < m.next ∧ ip ≠ it
/-- Nothing but the parser has changed. -/
def Kept (ip : Nat) (m m' : Mem) : Prop := m.next ≤ m'.next ∧ ∀ i, i < m.next → i ≠ ip → m'.get i = m.get i
theorem Kept.refl (ip : Nat) (m : Mem) : Kept ip m m := ⟨Nat.le_refl _, fun _ _ _ => rfl⟩
theorem Kept.trans {ip : Nat} {a b c : Mem} (h : Kept ip a b) (k : Kept ip b c) : Kept ip a c :=
  ⟨Nat.le_trans h.1 k.1, fun i hi hn => by rw [k.2 i (Nat.lt_of_lt_of_le hi h.1) hn, h.2 i hi hn]⟩
theorem Old.kept {ip : Nat} {a b : Mem} (h : Old a b) : Kept ip a b := ⟨h.1, fun i hi _ => h.2 i hi⟩
theorem PsAt.old {m m' : Mem} {ip it : Nat} {ts : List (Tk × Nat)} {s : PS} (h : PsAt m ip it ts s) (o : Old m m') : PsAt m' ip it ts s :=
  ⟨by rw [o.2 _ h.2.2.1]; exact h.1, by rw [o.2 _ h.2.2.2.1]; exact h.2.1, Nat.lt_of_lt_of_le h.2.2.1 o.1, Nat.lt_of_lt_of_le h.2.2.2.1 o.1, h.2.2.2.2⟩
theorem SK_stv {P : Program} {w0 : World} {ts : Fr} {m : Mem} {R : Value → Mem → Prop} {n i o : Nat} {p x : Operand} {cs vs : List Value} {e : TypeId} (hp : ev ts p = .pointer (some ⟨i, o, none⟩)) (hm : m.get i = .own cs e) (hv : cellsV (ev ts x) = vs) (h1 : o + n ≤ cs.length) (h2 : vs.length = n) (h3 : vs.all oneC = true)
    (hR : R undef (m.set i (.own (putAt cs o vs) e))) : SK P w0 (.e (.st n p x)) ts m R := by
  subst hv
  exact SK_st hp hm h1 h2 h3 hR
end Go.Proofs.YtjlicambfepfiaaGreatDoor.Ab

set_option linter.unusedVariables false
set_option linter.unusedSimpArgs false
namespace Go.Proofs.YtjlicambfepfiaaGreatDoor.Ab
open Go Go.RowKit
set_option maxHeartbeats 4000000
set_option maxRecDepth 100000
theorem step_set {base m : Mem} {ip it i3 : Nat} {ts : List (Tk × Nat)} {s : PS} {x : Ent} (KB : Kept ip base m) (p : PsAt m ip it ts s) (h3 : base.next ≤ i3) (hip : ip < base.next) (hit : it < base.next) :
    ∃ M, m.set i3 x = M ∧ Kept ip base M ∧ PsAt M ip it ts s ∧ M.get i3 = x ∧ (∀ i, i ≠ i3 → M.get i = m.get i) ∧ M.next = m.next :=
  ⟨_, rfl, ⟨KB.1, fun i hi hn => by rw [Mem.set_other _ _ (by omega)]; exact KB.2 i hi hn⟩, ⟨by rw [Mem.set_other _ _ (by omega)]; exact p.1, by rw [Mem.set_other _ _ (by omega)]; exact p.2.1, p.2.2.1, p.2.2.2.1, p.2.2.2.2⟩, by rw [Mem.set_same], fun i hi => Mem.set_other _ _ hi, rfl⟩
end Go.Proofs.YtjlicambfepfiaaGreatDoor.Ab

set_option linter.unusedVariables false
set_option linter.unusedSimpArgs false
namespace Go.Proofs.YtjlicambfepfiaaGreatDoor.Ab
open Go Go.RowKit
set_option maxHeartbeats 4000000
set_option maxRecDepth 100000
structure Arm where
  pat : List UInt8
  to : List UInt8
def Arm.cells (a : Arm) : List Value := [.string ⟨⟨a.pat⟩⟩, .string ⟨⟨a.to⟩⟩]
end Go.Proofs.YtjlicambfepfiaaGreatDoor.Ab

set_option linter.unusedVariables false
set_option linter.unusedSimpArgs false
namespace Go.Proofs.YtjlicambfepfiaaGreatDoor.Ab
open Go Go.RowKit
set_option maxHeartbeats 4000000
set_option maxRecDepth 100000
structure DS where
  lb : List UInt8
  kd : Int
  tx : List UInt8
  arms : List Arm
  n : Int
  to : List UInt8
  pl : Int
def dsC (d : DS) (av : Value) : List Value := [.string ⟨⟨d.lb⟩⟩, .int .i64 d.kd, .string ⟨⟨d.tx⟩⟩, av, .int .i64 d.n, .string ⟨⟨d.to⟩⟩, .int .i64 d.pl]
def ds0 : DS := ⟨[], 0, [], [], 0, [], 0⟩
end Go.Proofs.YtjlicambfepfiaaGreatDoor.Ab

set_option linter.unusedVariables false
set_option linter.unusedSimpArgs false
namespace Go.Proofs.YtjlicambfepfiaaGreatDoor.Ab
open Go Go.RowKit
set_option maxHeartbeats 4000000
set_option maxRecDepth 100000
/-- While a step is read. -/
structure S4 (base m : Mem) (ip it i2 i3 : Nat) (ts : List (Tk × Nat)) (s : PS) (d : DS) (ob : Option Nat) : Prop where
  kb : Kept ip base m
  ps : PsAt m ip it ts s
  sk : s.k < ts.length
  g2 : ∃ z, m.get i2 = .own (dsC ds0 z) 29
  g3 : m.get i3 = .own (dsC d (slV ob d.arms.length 2)) 29
  n2 : base.next ≤ i2
  n3 : base.next ≤ i3
  m2 : i2 < m.next
  m3 : i3 < m.next
  ne : i2 ≠ i3
  so : SlO m 49 2 ob (d.arms.flatMap Arm.cells) d.arms.length
  hob : ∀ i, ob = some i → base.next ≤ i
  al : d.arms.length ≤ ts.length
  hip : ip < base.next
  hit : it < base.next
theorem S4.call {base m m' : Mem} {ip it i2 i3 : Nat} {ts : List (Tk × Nat)} {s s' : PS} {d : DS} {ob : Option Nat} (h : S4 base m ip it i2 i3 ts s d ob) (k : Kept ip m m') (p : PsAt m' ip it ts s') (sk : s'.k < ts.length) : S4 base m' ip it i2 i3 ts s' d ob := by
  have e1 := h.n2
  have e2 := h.n3
  have e3 := h.hip
  refine ⟨h.kb.trans k, p, sk, ?_, ?_, h.n2, h.n3, Nat.lt_of_lt_of_le h.m2 k.1, Nat.lt_of_lt_of_le h.m3 k.1, h.ne, ?_, h.hob, h.al, h.hip, h.hit⟩
  · obtain ⟨z, hz⟩ := h.g2
    exact ⟨z, by rw [k.2 i2 h.m2 (by omega)]; exact hz⟩
  · rw [k.2 i3 h.m3 (by omega)]; exact h.g3
  · refine h.so.keep k.1 fun b hb => ?_
    subst hb
    exact k.2 b h.so.lt (by have := h.hob b rfl; omega)
theorem S4.put {base m : Mem} {ip it i2 i3 : Nat} {ts : List (Tk × Nat)} {s : PS} {d : DS} {ob : Option Nat} (h : S4 base m ip it i2 i3 ts s d ob) {d' : DS} {cs : List Value} (hd : d'.arms = d.arms) (hc : cs = dsC d' (slV ob d'.arms.length 2)) : ∃ M, m.set i3 (.own cs 29) = M ∧ S4 base M ip it i2 i3 ts s d' ob := by
  subst hc
  obtain ⟨M, h1, h2, h3, h4, h5, h6⟩ := step_set (x := .own (dsC d' (slV ob d'.arms.length 2)) 29) h.kb h.ps h.n3 h.hip h.hit
  refine ⟨M, h1, h2, h3, h.sk, ?_, h4, h.n2, h.n3, by rw [h6]; exact h.m2, by rw [h6]; exact h.m3, h.ne, ?_, h.hob, by rw [hd]; exact h.al, h.hip, h.hit⟩
  · rw [h5 i2 h.ne]; exact h.g2
  · rw [hd]
    subst h1
    exact h.so.set (h.so.ne h.g3 (by intro c hc; cases hc)) _
theorem S4.store {w0 : World} {fr : Fr} {R : Value → Mem → Prop} {base m : Mem} {ip it i2 i3 : Nat} {ts : List (Tk × Nat)} {s : PS} {d : DS} {ob : Option Nat} (h : S4 base m ip it i2 i3 ts s d ob) (d' : DS) (j : Nat) (v : Value) {p x : Operand}
    (hp : ev fr p = .pointer (some ⟨i3, j, none⟩)) (hv : cellsV (ev fr x) = [v]) (hd : d'.arms = d.arms) (hc : putAt (dsC d (slV ob d.arms.length 2)) j [v] = dsC d' (slV ob d.arms.length 2)) (hj : j + 1 ≤ 7) (ho : oneC v = true)
    (hR : ∀ M, S4 base M ip it i2 i3 ts s d' ob → (∀ i, i ≠ i3 → M.get i = m.get i) → M.next = m.next → R undef M) : SK Tryz.prog w0 (.e (.st 1 p x)) fr m R := by
  refine SK_stv (i := i3) (o := j) (vs := [v]) hp h.g3 hv hj rfl (by simp only [List.all_cons, List.all_nil, ho]; rfl) ?_
  obtain ⟨M, hM, hS⟩ := h.put (d' := d') (cs := putAt (dsC d (slV ob d.arms.length 2)) j [v]) hd (by rw [hd]; exact hc)
  rw [hM]
  subst hM
  exact hR _ hS (fun i hi => Mem.set_other _ _ hi) rfl
theorem SK_stm {P : Program} {w0 : World} {ts : Fr} {m M : Mem} {R : Value → Mem → Prop} {n i o : Nat} {p x : Operand} {cs vs : List Value} {e : TypeId} (hp : ev ts p = .pointer (some ⟨i, o, none⟩)) (hm : m.get i = .own cs e) (hv : cellsV (ev ts x) = vs) (h1 : o + n ≤ cs.length) (h2 : vs.length = n) (h3 : vs.all oneC = true)
    (hM : m.set i (.own (putAt cs o vs) e) = M) (hR : R undef M) : SK P w0 (.e (.st n p x)) ts m R := by
  subst hM
  exact SK_stv hp hm hv h1 h2 h3 hR
end Go.Proofs.YtjlicambfepfiaaGreatDoor.Ab

set_option linter.unusedVariables false
set_option linter.unusedSimpArgs false
namespace Go.Proofs.YtjlicambfepfiaaGreatDoor.Ab
open Go Go.RowKit
set_option maxHeartbeats 4000000
set_option maxRecDepth 100000
theorem S4.old {base m m' : Mem} {ip it i2 i3 : Nat} {ts : List (Tk × Nat)} {s : PS} {d : DS} {ob : Option Nat} (h : S4 base m ip it i2 i3 ts s d ob) (k : Old m m') : S4 base m' ip it i2 i3 ts s d ob := h.call k.kept (h.ps.old k) h.sk
theorem S4.other {base m : Mem} {ip it i2 i3 i4 : Nat} {ts : List (Tk × Nat)} {s : PS} {d : DS} (h : S4 base m ip it i2 i3 ts s d none) (x : Ent) (h4 : base.next ≤ i4) (n2 : i4 ≠ i2) (n3 : i4 ≠ i3) : ∃ M, m.set i4 x = M ∧ S4 base M ip it i2 i3 ts s d none ∧ M.get i4 = x ∧ M.next = m.next := by
  obtain ⟨M, q1, q2, q3, q4, q5, q6⟩ := step_set (x := x) h.kb h.ps h4 h.hip h.hit
  refine ⟨M, q1, ⟨q2, q3, h.sk, ?_, ?_, h.n2, h.n3, by rw [q6]; exact h.m2, by rw [q6]; exact h.m3, h.ne, ⟨h.so.1, h.so.2⟩, h.hob, h.al, h.hip, h.hit⟩, q4, q6⟩
  · rw [q5 i2 (fun e => n2 e.symm)]; exact h.g2
  · rw [q5 i3 (fun e => n3 e.symm)]; exact h.g3
end Go.Proofs.YtjlicambfepfiaaGreatDoor.Ab

set_option linter.unusedVariables false
set_option linter.unusedSimpArgs false
namespace Go.Proofs.YtjlicambfepfiaaGreatDoor.Ab
open Go Go.RowKit
set_option maxHeartbeats 4000000
set_option maxRecDepth 100000
theorem cat2 {a b : List UInt8} (h : a.length + b.length ≤ 9223372036854775807) : dBin .add (.string ⟨⟨a⟩⟩) (.string ⟨⟨b⟩⟩) = some (.string ⟨⟨a ++ b⟩⟩) := by
  rw [dBin_sadd (by exact h), bApp_eq]
theorem Bld.keep {base m m' : Mem} {i : Nat} {bs : List UInt8} (h : Bld base m i bs) (o : Old m m') : Bld base m' i bs := by
  obtain ⟨h1, h2, h3, pa, ob, h4, h5, h6, hz, h7⟩ := h
  refine ⟨h1.trans o, h2, Nat.lt_of_lt_of_le h3 o.1, pa, ob, by rw [o.2 _ h3]; exact h4, h5, h6.keep o.1 fun b hb => o.2 b ?_, hz, h7⟩
  subst hb
  exact h6.lt
end Go.Proofs.YtjlicambfepfiaaGreatDoor.Ab

set_option linter.unusedVariables false
set_option linter.unusedSimpArgs false
namespace Go.Proofs.YtjlicambfepfiaaGreatDoor.Ab
open Go Go.RowKit
set_option maxHeartbeats 4000000
set_option maxRecDepth 100000
/-- A step, and the value of its patterns. -/
abbrev DV := DS × Value
def vC (x : DV) : List Value := dsC x.1 x.2
theorem vC_len (x : DV) : (vC x).length = 7 := rfl
/-- The patterns of a step lie. -/
structure ArmV (m : Mem) (x : DV) : Prop where
  sl : SlR m 2 x.2 (x.1.arms.flatMap Arm.cells) x.1.arms.length
  bl : ∀ b, blk x.2 = some b → b < m.next
theorem ArmV.old {m m' : Mem} {x : DV} (h : ArmV m x) (o : Old m m') : ArmV m' x := ⟨h.sl.keep fun b hb => o.2 b (h.bl b hb), fun b hb => Nat.lt_of_lt_of_le (h.bl b hb) o.1⟩
theorem SlR.one {m : Mem} {sz n : Nat} {v : Value} {cs : List Value} (h : SlR m sz v cs n) : oneC v = true ∧ cellsV v = [v] := by
  rcases h.2 with ⟨-, h | h⟩ | ⟨i, o, L, h, -⟩ <;> rw [h] <;> exact ⟨rfl, rfl⟩
/-- Steps lie. -/
structure DsV (m : Mem) (v : Value) (l : List DV) : Prop where
  sl : SlR m 7 v (l.flatMap vC) l.length
  bl : ∀ b, blk v = some b → b < m.next
  ar : ∀ x ∈ l, ArmV m x
theorem DsV.old {m m' : Mem} {v : Value} {l : List DV} (h : DsV m v l) (o : Old m m') : DsV m' v l := ⟨h.sl.keep fun b hb => o.2 b (h.bl b hb), fun b hb => Nat.lt_of_lt_of_le (h.bl b hb) o.1, fun x hx => (h.ar x hx).old o⟩
end Go.Proofs.YtjlicambfepfiaaGreatDoor.Ab

set_option linter.unusedVariables false
set_option linter.unusedSimpArgs false
namespace Go.Proofs.YtjlicambfepfiaaGreatDoor.Ab
open Go Go.RowKit
section
variable {m : Mem}
theorem arg_u8 (d : TD) (c : List Value) (hf : Fits (.int .u8) d) (h : AbsT m d c) : ∃ a : UInt8, c = [byteV a] ∧ True := by
  obtain ⟨n, rfl, rfl, hw⟩ := absT_int h hf
  have hw' : 0 ≤ n ∧ n ≤ 255 := by simpa [Lit.wf, IntKind.min, IntKind.max, IntKind.signed, IntKind.bits] using hw
  refine ⟨UInt8.ofNat n.toNat, ?_, trivial⟩
  have : (UInt8.ofNat n.toNat).toNat = n.toNat := by
    rw [UInt8.toNat_ofNat']; omega
  simp only [byteV, this]
  congr 2; omega
theorem flat_one {α : Type} (f : α → Value) : ∀ l : List α, l.flatMap (fun b => [f b]) = l.map f
  | [] => rfl
  | x :: l => by simp [flat_one f l]
theorem absT_bys {td : TD} {v : Value} (h : AbsT m td [v]) (hs : Fits (.sl (.int .u8)) td) :
    ∃ bs : List UInt8, SlR m 1 v (bs.map byteV) bs.length ∧ (∀ b, blk v = some b → b < m.next) ∧ bs.length + 1 ≤ td.bulk := by
  obtain ⟨l, xs, rfl, h1, h2, h3⟩ := absT_slice (f := fun b : UInt8 => [byteV b]) (z := 1) (R := fun _ _ => True) (fun _ => rfl) arg_u8 h hs
  rw [flat_one byteV] at h1
  refine ⟨xs, h1, h3, ?_⟩
  have := TD.bulks_len l
  rw [h2.length]
  simp [TD.bulk]; omega
theorem sl_max {G : Loc} {v v' : Value} {sz n : Nat} {cs : List Value} (h : SlR m sz v cs n) (hu : VR G v v') : n ≤ maxLen := by
  rcases h.2 with ⟨rfl, _⟩ | ⟨i, o, L, rfl, _⟩
  · exact Nat.zero_le _
  · cases hu with
    | sl _ _ _ _ _ _ c _ _ hn hc => omega
end
end Go.Proofs.YtjlicambfepfiaaGreatDoor.Ab

set_option linter.unusedVariables false
set_option linter.unusedSimpArgs false
namespace Go.Proofs.YtjlicambfepfiaaGreatDoor.Ab
open Go Go.RowKit
set_option maxHeartbeats 4000000
set_option maxRecDepth 100000
theorem rem_u8 {k b : Nat} (hb : 0 < b) : dBin .rem (.int .u8 (k : Int)) (.int .u8 (b : Int)) = some (.int .u8 ((k % b : Nat) : Int)) := by
  rw [dBin_rem (by omega), Int.tmod_eq_emod_of_nonneg (by omega)]
  rfl
def SafeL (t : List UInt8) : Prop := ∀ c ∈ t, (escC c).isSome = true
theorem SafeL.app {a b : List UInt8} (ha : SafeL a) (hb : SafeL b) : SafeL (a ++ b) := fun c hc => (List.mem_append.1 hc).elim (ha c) (hb c)
theorem SafeL.cons {c : UInt8} {b : List UInt8} (hc : (escC c).isSome = true) (hb : SafeL b) : SafeL (c :: b) := fun x hx => by
  rcases List.mem_cons.1 hx with rfl | h
  · exact hc
  · exact hb x h
theorem SafeL.ok : ∀ {t : List UInt8}, SafeL t → StrOk t
  | [], _ => strOk_nil
  | c :: t, h => strOk_cons (h c (by simp)) (SafeL.ok fun x hx => h x (by simp [hx]))
end Go.Proofs.YtjlicambfepfiaaGreatDoor.Ab

set_option linter.unusedVariables false
set_option linter.unusedSimpArgs false
namespace Go.Proofs.YtjlicambfepfiaaGreatDoor.Ab
open Go Go.RowKit
set_option maxHeartbeats 4000000
set_option maxRecDepth 100000
/-- What lies in X is kept. -/
def Keeps (X : Nat → Prop) (m m' : Mem) : Prop := m.next ≤ m'.next ∧ ∀ i, i < m.next → X i → m'.get i = m.get i
theorem Keeps.refl (X : Nat → Prop) (m : Mem) : Keeps X m m := ⟨Nat.le_refl _, fun _ _ _ => rfl⟩
theorem Keeps.trans {X : Nat → Prop} {a b c : Mem} (h : Keeps X a b) (k : Keeps X b c) : Keeps X a c :=
  ⟨Nat.le_trans h.1 k.1, fun i hi hn => by rw [k.2 i (Nat.lt_of_lt_of_le hi h.1) hn, h.2 i hi hn]⟩
theorem Keeps.mono {X Y : Nat → Prop} {a b : Mem} (h : Keeps X a b) (hy : ∀ i, i < a.next → Y i → X i) : Keeps Y a b := ⟨h.1, fun i hi hn => h.2 i hi (hy i hi hn)⟩
theorem Old.keeps {X : Nat → Prop} {a b : Mem} (h : Old a b) : Keeps X a b := ⟨h.1, fun i hi _ => h.2 i hi⟩
theorem Keeps.set {X : Nat → Prop} {a b : Mem} (h : Keeps X a b) {i : Nat} (hi : i < a.next → ¬ X i) (e : Ent) : Keeps X a (b.set i e) := ⟨h.1, fun k hk hx => by rw [Mem.set_other _ _ (fun e => hi (by omega) (by rw [← e]; exact hx)), h.2 k hk hx]⟩
theorem Keeps.push {X : Nat → Prop} {a b : Mem} (h : Keeps X a b) (e : Ent) : Keeps X a (b.push e) := ⟨Nat.le_trans h.1 (by simp), fun k hk hx => by rw [Mem.push_old _ _ (Nat.lt_of_lt_of_le hk h.1), h.2 k hk hx]⟩
/-- A slice that is only read, in blocks of X. -/
structure RdV (X : Nat → Prop) (m : Mem) (sz : Nat) (v : Value) (cs : List Value) (n : Nat) : Prop where
  sl : SlR m sz v cs n
  bl : ∀ b, blk v = some b → b < m.next ∧ X b
theorem RdV.keep {X : Nat → Prop} {m m' : Mem} {sz n : Nat} {v : Value} {cs : List Value} (h : RdV X m sz v cs n) (k : Keeps X m m') : RdV X m' sz v cs n :=
  ⟨h.sl.keep fun b hb => k.2 b (h.bl b hb).1 (h.bl b hb).2, fun b hb => ⟨Nat.lt_of_lt_of_le (h.bl b hb).1 k.1, (h.bl b hb).2⟩⟩
theorem RdV.mono {X Y : Nat → Prop} {m : Mem} {sz n : Nat} {v : Value} {cs : List Value} (h : RdV X m sz v cs n) (hy : ∀ i, i < m.next → X i → Y i) : RdV Y m sz v cs n :=
  ⟨h.sl, fun b hb => ⟨(h.bl b hb).1, hy b (h.bl b hb).1 (h.bl b hb).2⟩⟩
theorem quo_u8 {k b : Nat} (hb : 0 < b) (hk : k < 256) : dBin .quo (.int .u8 (k : Int)) (.int .u8 (b : Int)) = some (.int .u8 ((k / b : Nat) : Int)) := by
  have h : k / b ≤ k := Nat.div_le_self _ _
  have e : (k : Int).tdiv (b : Int) = ((k / b : Nat) : Int) := by rw [Int.tdiv_eq_ediv_of_nonneg (by omega)]; rfl
  have e2 : IntKind.u8.wrap ((k / b : Nat) : Int) = ((k / b : Nat) : Int) := by
    generalize k / b = q at *
    simp only [IntKind.wrap, IntKind.bits, IntKind.signed]
    simp
    omega
  show (if (IntKind.u8 = IntKind.u8) then (if (b : Int) = 0 then none else some (Value.int .u8 (IntKind.u8.wrap ((k : Int).tdiv (b : Int))))) else none) = _
  rw [if_pos rfl, if_neg (by omega), e, e2]
structure St4 where
  a : Int
  b : Int
  c : Int
  d : Int
def St4.cells (s : St4) : List Value := [.int .u64 s.a, .int .u64 s.b, .int .u64 s.c, .int .u64 s.d]
def St4.at (s : St4) (k : Nat) : Int := if k = 0 then s.a else if k = 1 then s.b else if k = 2 then s.c else s.d
def hasB (s : St4) (c : UInt8) : Bool := IntKind.u64.wrap ((((s.at (c.toNat / 64)).fdiv (2 ^ min (c.toNat % 64) IntKind.u64.bits) % 2 ^ IntKind.u64.bits).toNat &&& 1 % 2 ^ IntKind.u64.bits : Nat) : Int) == 1
theorem c_Has {w0 : World} {m : Mem} {s : St4} {c : UInt8} {Q : Value → Mem → Prop} (hq : ∀ m', Old m m' → Q (.bool (hasB s c)) m') : AbC Tryz.prog w0 84 [.agg ⟨s.cells⟩, .int .u8 (c.toNat : Int)] m Q := by
  refine AbC_fn ok84 (by simp) ?_
  have hc := c.toNat_lt
  have q1 : dBin .quo (.int .u8 (c.toNat : Int)) (.int .u8 64) = some (.int .u8 ((c.toNat / 64 : Nat) : Int)) := quo_u8 (b := 64) (by omega) (by omega)
  have q2 : dBin .rem (.int .u8 (c.toNat : Int)) (.int .u8 64) = some (.int .u8 ((c.toNat % 64 : Nat) : Int)) := rem_u8 (b := 64) (by omega)
  have q3 : ∀ x : Int, dBin .shr (.int .u64 x) (.int .u8 ((c.toNat % 64 : Nat) : Int)) = some (.int .u64 (x.fdiv (2 ^ (min (c.toNat % 64) IntKind.u64.bits)))) := fun x => by
    have : ¬ ((c.toNat % 64 : Nat) : Int) < 0 := by omega
    simp only [dBin, this, if_false, Int.toNat_natCast]
  have q4 : ∀ x : Int, dBin .and (.int .u64 x) (.int .u64 1) = some (.int .u64 (IntKind.u64.wrap (((x % 2 ^ IntKind.u64.bits).toNat &&& 1 % 2 ^ IntKind.u64.bits : Nat) : Int))) := fun x => by simp [dBin]
  have q5 : ∀ x : Int, dBin .eql (.int .u64 x) (.int .u64 1) = some (.bool (x == 1)) := fun x => rfl
  have hd : c.toNat / 64 < 4 := by omega
  unfold hasB at hq
  obtain ⟨a, b, c2, d⟩ := s
  generalize c.toNat / 64 = p at *
  generalize c.toNat % 64 = r at *
  rcases (show p = 0 ∨ p = 1 ∨ p = 2 ∨ p = 3 by omega) with rfl | rfl | rfl | rfl
  all_goals
    simp only [St4.at, if_true, if_false, Nat.reduceEqDiff, Nat.one_ne_zero, Nat.succ_ne_zero] at hq
    simp only [Int.cast_ofNat_Int, Int.ofNat_zero, Int.ofNat_one] at q1
    simp -implicitDefEqProofs (disch := first | assumption | (simp only [wnA]; done) | (simp only [wnA]; omega) | omega | fail) [rc84, ro84, St4.cells, wkA, retV, stabOk, dC, ev, fillD, pickCells, putAt, bnd, slD, List.getElem?_cons_zero, List.getElem?_cons_succ, dR_sl, Mem.cell, Mem.row, wmA, q1, q2, q3, q4, q5]
    exact hq _ ((Old.refl m).push _)
end Go.Proofs.YtjlicambfepfiaaGreatDoor.Ab

set_option linter.unusedVariables false
set_option linter.unusedSimpArgs false
namespace Go.Proofs.YtjlicambfepfiaaGreatDoor.Ab
open Go Go.RowKit
set_option maxHeartbeats 4000000
set_option maxRecDepth 100000
structure Tab where
  sets : List St4
  next : List (List Bool)
  first : List Bool
  last : List Bool
  emp : Bool
def Tab.n (T : Tab) : Nat := T.sets.length
theorem st4_len (s : St4) : s.cells.length = 4 := rfl
/-- A table lies, in blocks of X. -/
structure TabV (X : Nat → Prop) (m : Mem) (it : Nat) (T : Tab) : Prop where
  ex : ∃ (sv nv fv lv : Value) (rs : List (Value × List Bool)), m.get it = .own [sv, nv, fv, lv, .bool T.emp] 175 ∧ RdV X m 4 sv (T.sets.flatMap St4.cells) T.sets.length ∧ rs.map Prod.snd = T.next ∧ RdV X m 1 nv (rs.map Prod.fst) rs.length ∧ (∀ r ∈ rs, RdV X m 1 r.1 (r.2.map .bool) r.2.length) ∧ RdV X m 1 fv (T.first.map .bool) T.first.length ∧ RdV X m 1 lv (T.last.map .bool) T.last.length
  lt : it < m.next ∧ X it
  wf : T.next.length = T.n ∧ (∀ r ∈ T.next, r.length = T.n) ∧ T.first.length = T.n ∧ T.last.length = T.n ∧ T.n ≤ 1000
theorem TabV.keep {X : Nat → Prop} {m m' : Mem} {it : Nat} {T : Tab} (h : TabV X m it T) (k : Keeps X m m') : TabV X m' it T := by
  obtain ⟨sv, nv, fv, lv, rs, g, h1, h2, h3, h4, h5, h6⟩ := h.ex
  exact ⟨⟨sv, nv, fv, lv, rs, (k.2 it h.lt.1 h.lt.2).trans g, h1.keep k, h2, h3.keep k, fun r hr => (h4 r hr).keep k, h5.keep k, h6.keep k⟩, ⟨Nat.lt_of_lt_of_le h.lt.1 k.1, h.lt.2⟩, h.wf⟩
theorem TabV.mono {X Y : Nat → Prop} {m : Mem} {it : Nat} {T : Tab} (h : TabV X m it T) (hy : ∀ i, i < m.next → X i → Y i) : TabV Y m it T := by
  obtain ⟨sv, nv, fv, lv, rs, g, h1, h2, h3, h4, h5, h6⟩ := h.ex
  exact ⟨⟨sv, nv, fv, lv, rs, g, h1.mono hy, h2, h3.mono hy, fun r hr => (h4 r hr).mono hy, h5.mono hy, h6.mono hy⟩, ⟨h.lt.1, hy _ h.lt.1 h.lt.2⟩, h.wf⟩
def orJ (T : Tab) (at_ : List Bool) (k : Nat) (is : Bool) : Nat → Bool
  | 0 => is
  | j + 1 => orJ T at_ k is j || (decide (j < T.n) && at_.getD j false && (T.next.getD j []).getD k false)
def tabK (T : Tab) (at_ : List Bool) (c : UInt8) (b : Bool) (k : Nat) : Bool := if hasB (T.sets.getD k ⟨0, 0, 0, 0⟩) c then orJ T at_ k (b && T.first.getD k false) at_.length else false
def stepB (T : Tab) (at_ : List Bool) (c : UInt8) (b : Bool) : List Bool := (List.range T.n).map (tabK T at_ c b)
def stepJ (T : Tab) (at_ : List Bool) (c : UInt8) (b : Bool) (j : Nat) : List Bool := (List.range j).map (tabK T at_ c b) ++ List.replicate (T.n - j) false
theorem stepJ_len {T : Tab} {at_ : List Bool} {c : UInt8} {b : Bool} {j : Nat} (h : j ≤ T.n) : (stepJ T at_ c b j).length = T.n := by simp [stepJ]; omega
theorem stepJ_succ {T : Tab} {at_ : List Bool} {c : UInt8} {b : Bool} {j : Nat} (h : j < T.n) : stepJ T at_ c b (j + 1) = (stepJ T at_ c b j).take j ++ tabK T at_ c b j :: (stepJ T at_ c b j).drop (j + 1) := by
  have e : T.n - j = (T.n - (j + 1)) + 1 := by omega
  unfold stepJ
  rw [e, List.replicate_succ, List.range_succ, List.map_append]
  have h1 : ((List.range j).map (tabK T at_ c b)).length = j := by simp
  rw [List.take_append_of_le_length (by omega), List.take_of_length_le (by omega), List.drop_append, List.drop_of_length_le (by omega), h1]
  simp
theorem boolAt {X : Nat → Prop} {m : Mem} {v : Value} {l : List Bool} {j : Nat} (h : RdV X m 1 v (l.map .bool) l.length) (hj : j < l.length) : ∃ i o L, v = .slice (some ⟨i, o, none⟩) l.length 1 ∧ (m.get i).cells? = some L ∧ L[o + j]? = some (.bool (l.getD j false)) ∧ o + j < L.length := by
  obtain ⟨i, o, L, h1, h2, h3, -, h5⟩ := h.sl.at hj
  have h6 := h5 0 (by omega)
  simp only [Nat.mul_one, Nat.add_zero, List.getElem?_map, List.getElem?_eq_getElem hj, Option.map_some] at h6
  refine ⟨i, o, L, h1, h2, ?_, by omega⟩
  rw [h6, List.getD, List.getElem?_eq_getElem hj]
  rfl
theorem c_Ends {w0 : World} {X : Nat → Prop} {m : Mem} {it : Nat} {T : Tab} {av : Value} {l : List Bool} {Q : Value → Mem → Prop} (hT : TabV X m it T) (ha : RdV X m 1 av (l.map .bool) l.length) (hl : l.length ≤ 1000) (hq : Q (.bool ((List.range l.length).any fun k => l.getD k false && (decide (k < T.n) && T.last.getD k false))) m) :
    AbC Tryz.prog w0 65 [.pointer (some ⟨it, 0, none⟩), av] m Q := by
  refine AbC_fn ok65 (by simp) ?_
  obtain ⟨sv, nv, fv, lv, rs, g, h1, h2, h3, h4, h5, h6⟩ := hT.ex
  have hsl := ha.sl.slen
  have hll := hT.wf.2.2.2.1
  simp -implicitDefEqProofs (disch := first | assumption | (simp only [wnA]; done) | (simp only [wnA]; omega) | omega | fail) [rc65, ro65, wkA, retV, stabOk, dC, ev, fillD, pickCells, putAt, bnd, slD, List.getElem?_cons_zero, List.getElem?_cons_succ, dR.eq_20, Mem.cell, Mem.row, wmA, hsl]
  refine LoopW_of (fun k ts m' => ∃ j, j + k = l.length ∧ m' = m ∧ ((List.range j).any fun k => l.getD k false && (decide (k < T.n) && T.last.getD k false)) = false ∧ ts 0 = .pointer (some ⟨it, 0, none⟩) ∧ ts 7 = av ∧ ts 8 = .int .i64 (l.length : Nat) ∧ ts 9 = .int .i64 (j : Nat)) l.length ?_ ?_
  · exact ⟨0, by omega, rfl, rfl, by simp [frA_at], by simp, by simp, by simp⟩
  · rintro k ts m1 K ⟨j, hj, rfl, hf, t0, t7, t8, t9⟩ hK
    simp -implicitDefEqProofs (disch := first | assumption | (simp only [wnA]; done) | (simp only [wnA]; omega) | omega | fail) [rc65_1, wkA, retV, stabOk, dC, ev, fillD, pickCells, putAt, bnd, slD, List.getElem?_cons_zero, List.getElem?_cons_succ, dR.eq_20, Mem.cell, Mem.row, wmA, t8, t9]
    by_cases hjl : j < l.length
    · obtain ⟨bi, bo, L, hvv, hL, hc, hlt⟩ := boolAt ha hjl
      rw [hvv] at t7
      have hjw : IntKind.i64.wrap ((j : Int) + 1) = ((j + 1 : Nat) : Int) := by rw [w64 (by omega)]; omega
      have hsm : ((List.range (j + 1)).any fun k => l.getD k false && (decide (k < T.n) && T.last.getD k false)) = (l.getD j false && (decide (j < T.n) && T.last.getD j false)) := by
        rw [List.range_succ, List.any_append, hf]; simp
      generalize hx : l.getD j false = x at *
      cases x with
      | false =>
        simp -implicitDefEqProofs (disch := first | assumption | (simp only [wnA]; done) | (simp only [wnA]; omega) | omega | fail) [hjl, rc65_0, wkA, retV, stabOk, dC, ev, fillD, pickCells, putAt, bnd, slD, List.getElem?_cons_zero, List.getElem?_cons_succ, dR.eq_20, Mem.cell, Mem.row, wmA, t7, t9, sidx_at, hL, hc, getL hc, hjw]
        exact hK (k - 1) _ _ (by omega) ⟨j + 1, by omega, rfl, by rw [hsm]; rfl, by simp [t0], by simp [t7, hvv], by simp [t8], by simp⟩
      | true =>
        have hsl6 := h6.sl.slen
        by_cases hjn : j < T.n
        · have hj2 : j < T.last.length := by omega
          obtain ⟨bi2, bo2, L2, hvv2, hL2, hc2, hlt2⟩ := boolAt h6 hj2
          generalize hy : T.last.getD j false = y at *
          have hsx : sidx 1 lv (.int .i64 (j : Int)) = some (.pointer (some ⟨bi2, bo2 + j, none⟩)) := by rw [hvv2]; simpa using sidx_at (b := bi2) (o := bo2) (n := T.last.length) (c := 1) (j := j) (sz := 1) (k := .i64) hj2
          cases y with
          | true =>
            have hall : ((List.range l.length).any fun k => l.getD k false && (decide (k < T.n) && T.last.getD k false)) = true := by
              rw [List.any_eq_true]
              exact ⟨j, List.mem_range.2 hjl, by rw [hx, hy]; simp [hjn]⟩
            rw [hall] at hq
            simp -implicitDefEqProofs (disch := first | assumption | (simp only [wnA]; done) | (simp only [wnA]; omega) | omega | fail) [hjl, rc65_0, wkA, retV, stabOk, dC, ev, fillD, pickCells, putAt, bnd, slD, List.getElem?_cons_zero, List.getElem?_cons_succ, dR.eq_20, Mem.cell, Mem.row, wmA, t0, t7, t9, sidx_at, hL, hc, getL hc, hjw, g, hsl6, hj2, hsx, hL2, hc2, getL hc2]
            exact hq
          | false =>
            simp -implicitDefEqProofs (disch := first | assumption | (simp only [wnA]; done) | (simp only [wnA]; omega) | omega | fail) [hjl, rc65_0, wkA, retV, stabOk, dC, ev, fillD, pickCells, putAt, bnd, slD, List.getElem?_cons_zero, List.getElem?_cons_succ, dR.eq_20, Mem.cell, Mem.row, wmA, t0, t7, t9, sidx_at, hL, hc, getL hc, hjw, g, hsl6, hj2, hsx, hL2, hc2, getL hc2]
            exact hK (k - 1) _ _ (by omega) ⟨j + 1, by omega, rfl, by rw [hsm]; simp, by simp [t0], by simp [t7, hvv], by simp [t8], by simp⟩
        · have hj2 : ¬ j < T.last.length := by omega
          simp -implicitDefEqProofs (disch := first | assumption | (simp only [wnA]; done) | (simp only [wnA]; omega) | omega | fail) [hjl, rc65_0, wkA, retV, stabOk, dC, ev, fillD, pickCells, putAt, bnd, slD, List.getElem?_cons_zero, List.getElem?_cons_succ, dR.eq_20, Mem.cell, Mem.row, wmA, t0, t7, t9, sidx_at, hL, hc, getL hc, hjw, g, hsl6, hj2]
          exact hK (k - 1) _ _ (by omega) ⟨j + 1, by omega, rfl, by rw [hsm]; simp [hjn], by simp [t0], by simp [t7, hvv], by simp [t8], by simp⟩
    · have hjj : j = l.length := by omega
      subst hjj
      rw [hf] at hq
      simp -implicitDefEqProofs (disch := first | assumption | (simp only [wnA]; done) | (simp only [wnA]; omega) | omega | fail) [hjl, rc65_2, wkA, retV, stabOk, dC, ev, fillD, pickCells, putAt, bnd, slD, List.getElem?_cons_zero, List.getElem?_cons_succ, dR.eq_20, Mem.cell, Mem.row, wmA]
      exact hq
end Go.Proofs.YtjlicambfepfiaaGreatDoor.Ab

set_option linter.unusedVariables false
set_option linter.unusedSimpArgs false
namespace Go.Proofs.YtjlicambfepfiaaGreatDoor.Ab
open Go Go.RowKit
set_option maxHeartbeats 4000000
set_option maxRecDepth 100000
theorem SK_mksP {P : Program} {w0 : World} {ts : Fr} {m : Mem} {R : Value → Mem → Prop} {e bytes a : Nat} {z : Value} {n c : Operand} (hn : ev ts n = .int .i64 (a : Int)) (hc : ev ts c = .int .i64 (a : Int)) (hb : bytes * a ≤ 140737488355328) (hm : a ≤ maxLen) :
    SK P w0 (.e (.mks e bytes z n c)) ts m R = R (.slice (some ⟨m.next, 0, none⟩) a 1) (m.push (.own (List.replicate a z) e)) := by
  have h : (0 : Int) ≤ (a : Int) ∧ (a : Int) ≤ (a : Int) ∧ (bytes : Int) * (a : Int) ≤ 140737488355328 ∧ (a : Int) ≤ (maxLen : Nat) := ⟨by omega, Int.le_refl _, by rw [← Int.natCast_mul]; omega, Int.ofNat_le.2 hm⟩
  simp only [SK, dE, hn, hc]
  rw [if_pos h]
  simp
/-- One more place that one may have come from. -/
theorem w_came {w0 : World} {X : Nat → Prop} {Q : AQ} {fr : Fr} {m : Mem} {it k : Nat} {T : Tab} {av : Value} {l : List Bool} {is : Bool} (hT : TabV X m it T) (ha : RdV X m 1 av (l.map .bool) l.length) (hl : l.length ≤ 1000) (hk : k < T.n)
    (f0 : fr 0 = .pointer (some ⟨it, 0, none⟩)) (f1 : fr 1 = av) (f10 : fr 10 = .int .i64 (k : Nat)) (f12 : fr 12 = .bool is) (f44 : fr 44 = av) (f45 : fr 45 = .int .i64 (l.length : Nat)) (f46 : fr 46 = .int .i64 0)
    (hq : ∀ fr', fr' 12 = .bool (orJ T l k is l.length) → (∀ i ∈ [0, 1, 2, 3, 9, 10, 23, 24, 25], fr' i = fr i) → Q .normal fr' m) : LoopW (AbW Tryz.prog w0 rc64_1) (inBlockA 2 Q) fr m := by
  obtain ⟨sv, nv, fv, lv, rs, g, h1, h2, h3, h4, h5, h6⟩ := hT.ex
  have hrl : rs.length = T.n := by rw [← hT.wf.1, ← h2, List.length_map]
  have hsl3 := h3.sl.slen
  refine LoopW_of (fun n ts m' => ∃ j, j + n = l.length ∧ m' = m ∧ ts 12 = .bool (orJ T l k is j) ∧ (∀ i ∈ [0, 1, 2, 3, 9, 10, 23, 24, 25], ts i = fr i) ∧ ts 44 = av ∧ ts 45 = .int .i64 (l.length : Nat) ∧ ts 46 = .int .i64 (j : Nat)) l.length ?_ ?_
  · exact ⟨0, by omega, rfl, f12, fun _ _ => rfl, f44, f45, f46⟩
  · rintro n ts m1 K ⟨j, hj, rfl, t12, sm, t44, t45, t46⟩ hK
    have e0 := (sm 0 (by simp)).trans f0
    have e1 := (sm 1 (by simp)).trans f1
    have e10 := (sm 10 (by simp)).trans f10
    simp -implicitDefEqProofs (disch := first | assumption | (simp only [wnA]; done) | (simp only [wnA]; omega) | omega | fail) [rc64_1, wkA, retV, stabOk, dC, ev, fillD, pickCells, putAt, bnd, slD, List.getElem?_cons_zero, List.getElem?_cons_succ, dR.eq_20, Mem.cell, Mem.row, wmA, t45, t46]
    by_cases hjl : j < l.length
    · have hjw : IntKind.i64.wrap ((j : Int) + 1) = ((j + 1 : Nat) : Int) := by rw [w64 (by omega)]; omega
      have fin : ∀ fr' : Fr, fr' 12 = .bool (orJ T l k is (j + 1)) → (∀ i ∈ [0, 1, 2, 3, 9, 10, 23, 24, 25], fr' i = ts i) → fr' 44 = ts 44 → fr' 45 = ts 45 → fr' 46 = .int .i64 ((j + 1 : Nat) : Int) → K fr' m1 := fun fr' e12 es e44 e45 e46 =>
        hK (n - 1) _ _ (by omega) ⟨j + 1, by omega, rfl, e12, fun i hi => (es i hi).trans (sm i hi), e44.trans t44, e45.trans t45, e46⟩
      have ho : orJ T l k is (j + 1) = (orJ T l k is j || (decide (j < T.n) && l.getD j false && (T.next.getD j []).getD k false)) := rfl
      generalize orJ T l k is j = o at *
      cases o with
      | true =>
        rw [Bool.true_or] at ho
        simp -implicitDefEqProofs (disch := first | assumption | (simp only [wnA]; done) | (simp only [wnA]; omega) | omega | fail) [hjl, rc64_0, wkA, retV, stabOk, dC, ev, fillD, pickCells, putAt, bnd, slD, List.getElem?_cons_zero, List.getElem?_cons_succ, dR.eq_20, Mem.cell, Mem.row, wmA, t12, t46, hjw]
        refine fin _ (by simp [ho]) (fun i hi => ?_) (by simp) (by simp) (by simp)
        simp only [List.mem_cons, List.not_mem_nil, or_false] at hi
        rcases hi with rfl | rfl | rfl | rfl | rfl | rfl | rfl | rfl | rfl <;> simp
      | false =>
        rw [Bool.false_or] at ho
        by_cases hjn : j < T.n
        · obtain ⟨bi, bo, L, hvv, hL, hc, hlt⟩ := boolAt ha hjl
          have hsx : sidx 1 av (.int .i64 (j : Int)) = some (.pointer (some ⟨bi, bo + j, none⟩)) := by rw [hvv]; simpa using sidx_at (b := bi) (o := bo) (n := l.length) (c := 1) (j := j) (sz := 1) (k := .i64) hjl
          have hjr : j < rs.length := by omega
          generalize hx : l.getD j false = x at *
          cases x with
          | false =>
            rw [Bool.and_false, Bool.false_and] at ho
            simp -implicitDefEqProofs (disch := first | assumption | (simp only [wnA]; done) | (simp only [wnA]; omega) | omega | fail) [hjl, hjr, rc64_0, wkA, retV, stabOk, dC, ev, fillD, pickCells, putAt, bnd, slD, List.getElem?_cons_zero, List.getElem?_cons_succ, dR.eq_20, Mem.cell, Mem.row, wmA, t12, t46, hjw, e0, g, hsl3, e1, hsx, hL, hc, getL hc]
            refine fin _ (by simp [ho]) (fun i hi => ?_) (by simp) (by simp) (by simp)
            simp only [List.mem_cons, List.not_mem_nil, or_false] at hi
            rcases hi with rfl | rfl | rfl | rfl | rfl | rfl | rfl | rfl | rfl <;> simp [e0, e1, e10]
          | true =>
            obtain ⟨b2, o2, L2, hv2, hL2, hl2, -, hc2⟩ := h3.sl.at hjr
            have hc2 := hc2 0 (by omega)
            simp only [Nat.mul_one, Nat.add_zero, List.getElem?_map, List.getElem?_eq_getElem hjr, Option.map_some] at hc2
            have hs2 : sidx 1 nv (.int .i64 (j : Int)) = some (.pointer (some ⟨b2, o2 + j, none⟩)) := by rw [hv2]; simpa using sidx_at (b := b2) (o := o2) (n := rs.length) (c := 1) (j := j) (sz := 1) (k := .i64) hjr
            have hrm := List.getElem_mem hjr
            have hnx : T.next.getD j [] = rs[j].2 := by
              rw [← h2, List.getD, List.getElem?_map, List.getElem?_eq_getElem hjr]; rfl
            have hrn : rs[j].2.length = T.n := hT.wf.2.1 _ (by rw [← h2]; exact List.mem_map.2 ⟨_, hrm, rfl⟩)
            have hr4 := h4 _ hrm
            rw [hnx] at ho
            generalize rs[j] = r at *
            obtain ⟨b3, o3, L3, hv3, hL3, hc3, hlt3⟩ := boolAt hr4 (show k < r.2.length by omega)
            have hs3 : sidx 1 r.1 (.int .i64 (k : Int)) = some (.pointer (some ⟨b3, o3 + k, none⟩)) := by rw [hv3]; simpa using sidx_at (b := b3) (o := o3) (n := r.2.length) (c := 1) (j := k) (sz := 1) (k := .i64) (by omega)
            have ho : orJ T l k is (j + 1) = r.2.getD k false := by rw [ho]; simp [hjn]
            generalize r.2.getD k false = y at *
            simp -implicitDefEqProofs (disch := first | assumption | (simp only [wnA]; done) | (simp only [wnA]; omega) | omega | fail) [hjl, hjr, rc64_0, wkA, retV, stabOk, dC, ev, fillD, pickCells, putAt, bnd, slD, List.getElem?_cons_zero, List.getElem?_cons_succ, dR.eq_20, Mem.cell, Mem.row, wmA, t12, t46, hjw, e0, e1, e10, g, hsl3, hsx, hL, hc, getL hc, hs2, hL2, hc2, getL hc2, hs3, hL3, hc3, getL hc3]
            refine fin _ (by simp [ho]) (fun i hi => ?_) (by simp) (by simp) (by simp)
            simp only [List.mem_cons, List.not_mem_nil, or_false] at hi
            rcases hi with rfl | rfl | rfl | rfl | rfl | rfl | rfl | rfl | rfl <;> simp [e0, e1, e10]
        · have hjr : ¬ j < rs.length := by omega
          have ho : orJ T l k is (j + 1) = false := by rw [ho]; simp [hjn]
          simp -implicitDefEqProofs (disch := first | assumption | (simp only [wnA]; done) | (simp only [wnA]; omega) | omega | fail) [hjl, hjr, rc64_0, wkA, retV, stabOk, dC, ev, fillD, pickCells, putAt, bnd, slD, List.getElem?_cons_zero, List.getElem?_cons_succ, dR.eq_20, Mem.cell, Mem.row, wmA, t12, t46, hjw, e0, g, hsl3]
          refine fin _ (by simp [ho]) (fun i hi => ?_) (by simp) (by simp) (by simp)
          simp only [List.mem_cons, List.not_mem_nil, or_false] at hi
          rcases hi with rfl | rfl | rfl | rfl | rfl | rfl | rfl | rfl | rfl <;> simp [e0, e1, e10]
    · have hjj : j = l.length := by omega
      subst hjj
      simp -implicitDefEqProofs (disch := first | assumption | (simp only [wnA]; done) | (simp only [wnA]; omega) | omega | fail) [hjl, wkA, retV, stabOk, dC, ev, fillD, pickCells, putAt, bnd, slD, List.getElem?_cons_zero, List.getElem?_cons_succ, dR.eq_20, Mem.cell, Mem.row, wmA]
      exact hq _ (by simp [t12]) fun i hi => by
        have := sm i hi
        simp only [List.mem_cons, List.not_mem_nil, or_false] at hi
        rcases hi with rfl | rfl | rfl | rfl | rfl | rfl | rfl | rfl | rfl <;> simp [this]
theorem stepJ_same {T : Tab} {l : List Bool} {c : UInt8} {b : Bool} {j : Nat} (h : j < T.n) (hk : tabK T l c b j = false) : stepJ T l c b (j + 1) = stepJ T l c b j := by
  have e : T.n - j = (T.n - (j + 1)) + 1 := by omega
  unfold stepJ
  rw [e, List.replicate_succ, List.range_succ, List.map_append, List.map_cons, hk]
  simp
theorem c_Step {w0 : World} {X : Nat → Prop} {m : Mem} {it : Nat} {T : Tab} {av : Value} {l : List Bool} {c : UInt8} {b : Bool} {Q : Value → Mem → Prop} (hT : TabV X m it T) (ha : RdV X m 1 av (l.map .bool) l.length) (hl : l.length ≤ 1000)
    (hq : ∀ m', Old m m' → m.next < m'.next → m'.get m.next = .own ((stepB T l c b).map .bool) 4 → Q (.slice (some ⟨m.next, 0, none⟩) T.n 1) m') :
    AbC Tryz.prog w0 64 [.pointer (some ⟨it, 0, none⟩), av, .int .u8 (c.toNat : Int), .bool b] m Q := by
  refine AbC_fn ok64 (by simp) ?_
  obtain ⟨sv, nv, fv, lv, rs, g, h1, h2, h3, h4, h5, h6⟩ := hT.ex
  have hsl := h1.sl.slen
  have hn := hT.wf.2.2.2.2
  have hsn : T.sets.length = T.n := rfl
  rw [hsn] at hsl
  simp -implicitDefEqProofs (disch := first | assumption | (simp only [wnA]; done) | (simp only [wnA]; omega) | omega | fail) [rc64, ro64, wkA, retV, stabOk, dC, ev, fillD, pickCells, putAt, bnd, slD, List.getElem?_cons_zero, List.getElem?_cons_succ, dR.eq_20, Mem.cell, Mem.row, wmA, g, hsl]
  rw [SK_mksP (a := T.n) (by simp [wkA, retV, stabOk, dC, ev, fillD, pickCells, putAt, bnd, slD, List.getElem?_cons_zero, List.getElem?_cons_succ, dR.eq_20]) (by simp [wkA, retV, stabOk, dC, ev, fillD, pickCells, putAt, bnd, slD, List.getElem?_cons_zero, List.getElem?_cons_succ, dR.eq_20]) (by omega) (by simp only [maxLen]; omega)]
  obtain ⟨M, hM⟩ : ∃ M, m.push (.own (List.replicate T.n (.bool false)) 4) = M := ⟨_, rfl⟩
  have oM : Old m M := by subst hM; exact (Old.refl m).push _
  have gM : M.get m.next = .own ((stepJ T l c b 0).map .bool) 4 := by subst hM; rw [Mem.push_same]; simp [stepJ]
  have nM : m.next < M.next := by subst hM; simp
  have gt : M.get it = .own [sv, nv, fv, lv, .bool T.emp] 175 := (oM.2 _ hT.lt.1).trans g
  rw [hM]
  clear hM
  simp -implicitDefEqProofs (disch := first | assumption | (simp only [wnA]; done) | (simp only [wnA]; omega) | omega | fail) [wkA, retV, stabOk, dC, ev, fillD, pickCells, putAt, bnd, slD, List.getElem?_cons_zero, List.getElem?_cons_succ, dR.eq_20, Mem.cell, Mem.row, wmA, gt, hsl]
  refine LoopW_of (fun q ts m' => ∃ j, j + q = T.n ∧ Old m m' ∧ m.next < m'.next ∧ m'.get m.next = .own ((stepJ T l c b j).map .bool) 4 ∧ ts 0 = .pointer (some ⟨it, 0, none⟩) ∧ ts 1 = av ∧ ts 2 = .int .u8 (c.toNat : Int) ∧ ts 3 = .bool b ∧ ts 9 = .slice (some ⟨m.next, 0, none⟩) T.n 1 ∧ ts 23 = sv ∧ ts 24 = .int .i64 (T.n : Nat) ∧ ts 25 = .int .i64 (j : Nat)) T.n ?_ ?_
  · exact ⟨0, by omega, oM, nM, gM, by simp [frA_at], by simp [frA_at], by simp [frA_at], by simp [frA_at], by simp, by simp, by simp, by simp⟩
  · rintro q ts m1 K ⟨j, hj, o1, n1, go, t0, t1, t2, t3, t9, t23, t24, t25⟩ hK
    simp -implicitDefEqProofs (disch := first | assumption | (simp only [wnA]; done) | (simp only [wnA]; omega) | omega | fail) [rc64_4, wkA, retV, stabOk, dC, ev, fillD, pickCells, putAt, bnd, slD, List.getElem?_cons_zero, List.getElem?_cons_succ, dR.eq_20, Mem.cell, Mem.row, wmA, t24, t25]
    by_cases hjn : j < T.n
    · have hT1 := hT.keep (o1.keeps (X := X))
      have ha1 := ha.keep (o1.keeps (X := X))
      obtain ⟨bi, bo, L, hvv, hL, hLl, hLt, -⟩ := (h1.keep (o1.keeps (X := X))).sl.at hjn
      rw [flat_at st4_len T.sets (List.getElem?_eq_getElem hjn)] at hLt
      obtain ⟨s, hs⟩ : ∃ s, T.sets[j] = s := ⟨_, rfl⟩
      have hsg : T.sets.getD j ⟨0, 0, 0, 0⟩ = s := by rw [List.getD, List.getElem?_eq_getElem hjn, ← hs]; rfl
      rw [hs] at hLt
      rw [hvv] at t23
      have hle : bo + j * 4 + 4 ≤ L.length := by omega
      have hjw : IntKind.i64.wrap ((j : Int) + 1) = ((j + 1 : Nat) : Int) := by rw [w64 (by omega)]; omega
      obtain ⟨M2, hM2⟩ : ∃ M, (m1.push (.own [.int .u64 0, .int .u64 0, .int .u64 0, .int .u64 0] 73)).set m1.next (.own (putAt [.int .u64 0, .int .u64 0, .int .u64 0, .int .u64 0] 0 s.cells) 73) = M := ⟨_, rfl⟩
      have o2 : Old m1 M2 := by subst hM2; exact ((Old.refl m1).push _).set (Nat.le_refl _) _
      have g2 : M2.get m1.next = .own [.int .u64 s.a, .int .u64 s.b, .int .u64 s.c, .int .u64 s.d] 73 := by subst hM2; rw [Mem.set_same]; rfl
      have hsi : sidx 4 (.slice (some ⟨bi, bo, none⟩) T.sets.length 4) (.int .i64 (j : Int)) = some (.pointer (some ⟨bi, bo + j * 4, none⟩)) := sidx_at hjn
      have hLt' : (L.drop (bo + j * 4)).take 4 = [.int .u64 s.a, .int .u64 s.b, .int .u64 s.c, .int .u64 s.d] := hLt
      simp -implicitDefEqProofs (disch := first | assumption | (simp only [wnA]; done) | (simp only [wnA]; omega) | omega | fail) [hjn, rc64_3, wkA, retV, stabOk, dC, ev, fillD, pickCells, putAt, bnd, slD, List.getElem?_cons_zero, List.getElem?_cons_succ, dR.eq_20, Mem.cell, Mem.row, wmA, t23, t25, hsi, hL, hLt', hle]
      refine SK_stm (i := m1.next) (o := 0) (vs := s.cells) (cs := [.int .u64 0, .int .u64 0, .int .u64 0, .int .u64 0]) (e := 73) (M := M2) (by simp [wkA, retV, stabOk, dC, ev, fillD, pickCells, putAt, bnd, slD, List.getElem?_cons_zero, List.getElem?_cons_succ, dR.eq_20]) (by simp -implicitDefEqProofs (disch := first | assumption | (simp only [wnA]; done) | (simp only [wnA]; omega) | omega | fail) [wkA, retV, stabOk, dC, ev, fillD, pickCells, putAt, bnd, slD, List.getElem?_cons_zero, List.getElem?_cons_succ, dR.eq_20, Mem.cell, Mem.row, wmA]) (by simp [wkA, retV, stabOk, dC, ev, fillD, pickCells, putAt, bnd, slD, List.getElem?_cons_zero, List.getElem?_cons_succ, dR.eq_20, St4.cells]) (by simp) rfl rfl hM2 ?_
      clear hM2
      simp -implicitDefEqProofs (disch := first | assumption | (simp only [wnA]; done) | (simp only [wnA]; omega) | omega | fail) [wkA, retV, stabOk, dC, ev, fillD, pickCells, putAt, bnd, slD, List.getElem?_cons_zero, List.getElem?_cons_succ, dR.eq_20, Mem.cell, Mem.row, wmA, g2, t2]
      refine c_Has (s := s) fun m3 o3 => ?_
      have o13 := o2.trans o3
      have go3 : m3.get m.next = .own ((stepJ T l c b j).map .bool) 4 := (o13.2 _ n1).trans go
      have n3 : m.next < m3.next := Nat.lt_of_lt_of_le n1 o13.1
      have hk0 : tabK T l c b j = (if hasB s c then orJ T l j (b && T.first.getD j false) l.length else false) := by unfold tabK; rw [hsg]
      cases hh : hasB s c with
      | false =>
        rw [hh] at hk0
        simp -implicitDefEqProofs (disch := first | assumption | (simp only [wnA]; done) | (simp only [wnA]; omega) | omega | fail) [wkA, retV, stabOk, dC, ev, fillD, pickCells, putAt, bnd, slD, List.getElem?_cons_zero, List.getElem?_cons_succ, dR.eq_20, Mem.cell, Mem.row, wmA, t25, hjw]
        exact hK (q - 1) _ _ (by omega) ⟨j + 1, by omega, o1.trans o13, n3, by rw [stepJ_same hjn hk0]; exact go3, by simp [t0], by simp [t1], by simp [t2], by simp [t3], by simp [t9], by simp [t23, hvv], by simp [t24], by simp⟩
      | true =>
        rw [hh, if_pos rfl] at hk0
        have hT3 := hT1.keep (o13.keeps (X := X))
        have ha3 := ha1.keep (o13.keeps (X := X))
        have gt3 : m3.get it = .own [sv, nv, fv, lv, .bool T.emp] 175 := ((o1.trans o13).2 _ hT.lt.1).trans g
        have hfl := hT.wf.2.2.1
        obtain ⟨b5, o5, L5, hv5, hL5, hc5, -⟩ := boolAt (h5.keep ((o1.trans o13).keeps (X := X))) (show j < T.first.length by omega)
        have hs5 : sidx 1 fv (.int .i64 (j : Int)) = some (.pointer (some ⟨b5, o5 + j, none⟩)) := by rw [hv5]; simpa using sidx_at (b := b5) (o := o5) (n := T.first.length) (c := 1) (j := j) (sz := 1) (k := .i64) (by omega)
        generalize T.first.getD j false = fj at *
        have hsla := ha3.sl.slen
        obtain ⟨M5, hM5⟩ : ∃ M, m3.set m.next (.own (putAt ((stepJ T l c b j).map .bool) j [.bool (tabK T l c b j)]) 4) = M := ⟨_, rfl⟩
        have g5 : M5.get m.next = .own ((stepJ T l c b (j + 1)).map .bool) 4 := by
          subst hM5
          rw [Mem.set_same, stepJ_succ hjn]
          simp [putAt, List.map_take, List.map_drop]
        have o5 : Old m M5 := by subst hM5; exact (o1.trans o13).set (Nat.le_refl _) _
        have n5 : m.next < M5.next := by subst hM5; exact n3
        have hlj : ((stepJ T l c b j).map Value.bool).length = T.n := by rw [List.length_map, stepJ_len (by omega)]
        have hsj : sidx 1 (.slice (some ⟨m.next, 0, none⟩) T.n 1) (.int .i64 (j : Int)) = some (.pointer (some ⟨m.next, j, none⟩)) := by simpa using sidx_at (b := m.next) (o := 0) (n := T.n) (c := 1) (j := j) (sz := 1) (k := .i64) hjn
        have last : ∀ (fr' : Fr), fr' 0 = ts 0 → fr' 1 = ts 1 → fr' 2 = ts 2 → fr' 3 = ts 3 → fr' 9 = ts 9 → fr' 23 = ts 23 → fr' 24 = ts 24 → fr' 25 = .int .i64 ((j + 1 : Nat) : Int) → K fr' M5 := fun fr' e0 e1 e2 e3 e9 e23 e24 e25 =>
          hK (q - 1) _ _ (by omega) ⟨j + 1, by omega, o5, n5, g5, by rw [e0, t0], by rw [e1, t1], by rw [e2, t2], by rw [e3, t3], by rw [e9, t9], by rw [e23, t23, hvv], by rw [e24, t24], e25⟩
        cases b
        · simp only [Bool.false_and] at hk0
          simp -implicitDefEqProofs (disch := first | assumption | (simp only [wnA]; done) | (simp only [wnA]; omega) | omega | fail) [rc64_2, wkA, retV, stabOk, dC, ev, fillD, pickCells, putAt, bnd, slD, List.getElem?_cons_zero, List.getElem?_cons_succ, dR.eq_20, Mem.cell, Mem.row, wmA, t0, t1, t3, t25, hsla]
          refine w_came (k := j) (is := false) hT3 ha3 hl hjn (by simp [t0]) (by simp [t1]) (by simp) (by simp) (by simp) (by simp) (by simp) fun fr' e12 es => ?_
          rw [← hk0] at e12
          have h9 := (es 9 (by simp)).trans (by simp [t9] : _ = Value.slice (some ⟨m.next, 0, none⟩) T.n 1)
          have h10 := (es 10 (by simp)).trans (by simp : _ = Value.int .i64 (j : Int))
          have h25 := (es 25 (by simp)).trans (by simp [t25] : _ = Value.int .i64 (j : Int))
          simp -implicitDefEqProofs (disch := first | assumption | (simp only [wnA]; done) | (simp only [wnA]; omega) | omega | fail) [wkA, retV, stabOk, dC, ev, fillD, pickCells, putAt, bnd, slD, List.getElem?_cons_zero, List.getElem?_cons_succ, dR.eq_20, Mem.cell, Mem.row, wmA, h9, h10, e12, hsj]
          refine SK_stm (i := m.next) (o := j) (vs := [.bool (tabK T l c false j)]) (cs := (stepJ T l c false j).map .bool) (e := 4) (M := M5) (by simp [wkA, retV, stabOk, dC, ev, fillD, pickCells, putAt, bnd, slD, List.getElem?_cons_zero, List.getElem?_cons_succ, dR.eq_20]) go3 (by simp [wkA, retV, stabOk, dC, ev, fillD, pickCells, putAt, bnd, slD, List.getElem?_cons_zero, List.getElem?_cons_succ, dR.eq_20]) (by rw [hlj]; omega) rfl rfl hM5 ?_
          clear hM5
          simp -implicitDefEqProofs (disch := first | assumption | (simp only [wnA]; done) | (simp only [wnA]; omega) | omega | fail) [wkA, retV, stabOk, dC, ev, fillD, pickCells, putAt, bnd, slD, List.getElem?_cons_zero, List.getElem?_cons_succ, dR.eq_20, Mem.cell, Mem.row, wmA, h25, hjw]
          exact last _ (by simpa using es 0 (by simp)) (by simpa using es 1 (by simp)) (by simpa using es 2 (by simp)) (by simpa using es 3 (by simp)) (by simpa [h9] using t9.symm) (by simpa using es 23 (by simp)) (by simpa using es 24 (by simp)) (by simp)
        · simp only [Bool.true_and] at hk0
          simp -implicitDefEqProofs (disch := first | assumption | (simp only [wnA]; done) | (simp only [wnA]; omega) | omega | fail) [rc64_2, wkA, retV, stabOk, dC, ev, fillD, pickCells, putAt, bnd, slD, List.getElem?_cons_zero, List.getElem?_cons_succ, dR.eq_20, Mem.cell, Mem.row, wmA, t0, t1, t3, t25, hsla, gt3, hs5, hL5, hc5, getL hc5]
          refine w_came (k := j) (is := fj) hT3 ha3 hl hjn (by simp [t0]) (by simp [t1]) (by simp) (by simp) (by simp) (by simp) (by simp) fun fr' e12 es => ?_
          rw [← hk0] at e12
          have h9 := (es 9 (by simp)).trans (by simp [t9] : _ = Value.slice (some ⟨m.next, 0, none⟩) T.n 1)
          have h10 := (es 10 (by simp)).trans (by simp : _ = Value.int .i64 (j : Int))
          have h25 := (es 25 (by simp)).trans (by simp [t25] : _ = Value.int .i64 (j : Int))
          simp -implicitDefEqProofs (disch := first | assumption | (simp only [wnA]; done) | (simp only [wnA]; omega) | omega | fail) [wkA, retV, stabOk, dC, ev, fillD, pickCells, putAt, bnd, slD, List.getElem?_cons_zero, List.getElem?_cons_succ, dR.eq_20, Mem.cell, Mem.row, wmA, h9, h10, e12, hsj]
          refine SK_stm (i := m.next) (o := j) (vs := [.bool (tabK T l c true j)]) (cs := (stepJ T l c true j).map .bool) (e := 4) (M := M5) (by simp [wkA, retV, stabOk, dC, ev, fillD, pickCells, putAt, bnd, slD, List.getElem?_cons_zero, List.getElem?_cons_succ, dR.eq_20]) go3 (by simp [wkA, retV, stabOk, dC, ev, fillD, pickCells, putAt, bnd, slD, List.getElem?_cons_zero, List.getElem?_cons_succ, dR.eq_20]) (by rw [hlj]; omega) rfl rfl hM5 ?_
          clear hM5
          simp -implicitDefEqProofs (disch := first | assumption | (simp only [wnA]; done) | (simp only [wnA]; omega) | omega | fail) [wkA, retV, stabOk, dC, ev, fillD, pickCells, putAt, bnd, slD, List.getElem?_cons_zero, List.getElem?_cons_succ, dR.eq_20, Mem.cell, Mem.row, wmA, h25, hjw]
          exact last _ (by simpa using es 0 (by simp)) (by simpa using es 1 (by simp)) (by simpa using es 2 (by simp)) (by simpa using es 3 (by simp)) (by simpa [h9] using t9.symm) (by simpa using es 23 (by simp)) (by simpa using es 24 (by simp)) (by simp)
    · have hjj : j = T.n := by omega
      subst hjj
      simp -implicitDefEqProofs (disch := first | assumption | (simp only [wnA]; done) | (simp only [wnA]; omega) | omega | fail) [hjn, rc64_5, wkA, retV, stabOk, dC, ev, fillD, pickCells, putAt, bnd, slD, List.getElem?_cons_zero, List.getElem?_cons_succ, dR.eq_20, Mem.cell, Mem.row, wmA, t9]
      refine hq m1 o1 n1 ?_
      rw [go]
      simp [stepJ, stepB]
end Go.Proofs.YtjlicambfepfiaaGreatDoor.Ab
