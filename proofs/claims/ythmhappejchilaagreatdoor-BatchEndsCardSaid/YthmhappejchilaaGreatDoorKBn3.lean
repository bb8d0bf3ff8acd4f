/- Parts of a proof, put together: The resolved codes of the functions that are walked, and that the program has them. -/
import Derived.Test.YthmhappejchilaaGreatDoorKBn2
import Derived.Test.YthmhappejchilaaGreatDoorProg
import Derived.KernelRfl
set_option maxHeartbeats 4000000
namespace Go.Proofs.YthmhappejchilaaGreatDoor.Ab
open Go Go.RowKit
abbrev zt (n : Nat) : Operand := .tmp n
abbrev zi (n : Int) : Operand := .const (.int .i64 n)
abbrev zr (n : Nat) (x : RO) : Sp := ⟨some n, none, .r x, []⟩
abbrev za (n : Nat) (x : Operand) : Sp := ⟨some n, none, .a x, []⟩
abbrev zf (n : Nat) (x : EO) : Sp := ⟨some n, none, .e x, []⟩
abbrev ze (x : EO) : Sp := ⟨none, none, .e x, []⟩
abbrev zg (n c : Nat) (b : Bool) (x : RO) : Sp := ⟨some n, some (c, b), .r x, []⟩
abbrev zc (n f : Nat) (l : List Operand) : Sp := ⟨some n, none, .c (.fn f l), []⟩
def rc8_0 : RC := (.seq (.block 1 (.seq (.run [zr 34 (.mv (zt 7)), zc 35 23 [(zt 34)]])
  (.run [zr 36 (.mv (zt 9)), zc 37 29 [(zt 36)]])))
  (.run [zr 32 (.mv (zt 10)), zr 33 (.bin .add (zt 32) (zi 1)), za 10 (zt 33)]))
def rc8_1 : RC := (.seq (.seq (.run [zr 30 (.mv (zt 10)), zr 31 (.bin .lss (zt 30) (zi 893))])
  (.cond (zt 31)
  .skip
  (.exit 0)))
  rc8_0)
def rc8_2 : RC := (.seq (.run [zr 39 (.mv (zt 7)), zc 40 15 [(zt 39)], zr 38 (.mv (zt 40)), zr 41 (.ext 0 (zt 38)), zr 42 (.ext 1 (zt 38)), za 11 (zt 41), za 12 (zt 42)])
  (.seq (.run [zr 44 (.mv (zt 9)), zc 45 16 [(zt 44)], zr 43 (.mv (zt 45)), zr 46 (.ext 0 (zt 43)), zr 47 (.ext 1 (zt 43)), za 13 (zt 46), za 14 (zt 47)])
  (.seq (.run [zr 48 (.mv (zt 11)), zr 49 (.mv (zt 48)), zg 50 49 true (.mv (zt 13)), zr 51 (.pick (zt 49) (zt 50) (.const (.bool false))), zr 52 (.mv (zt 51)), zg 53 52 true (.mv (zt 12)), ⟨(some 54), (some (52, true)), (.c (.fn 39 [(zt 53)])), []⟩, zg 55 52 true (.bin .eql (zt 54) (zi 10)), zr 56 (.pick (zt 52) (zt 55) (.const (.bool false))), zr 57 (.mv (zt 56)), zg 58 57 true (.mv (zt 14)), ⟨(some 59), (some (57, true)), (.c (.fn 39 [(zt 58)])), []⟩, zg 60 57 true (.bin .eql (zt 59) (zi 10)), zr 61 (.pick (zt 57) (zt 60) (.const (.bool false))), zr 62 (.mv (zt 61)), zg 63 62 true (.mv (zt 9)), ⟨(some 64), (some (62, true)), (.c (.fn 18 [(zt 63)])), []⟩, zg 65 62 true (.lenl (zt 64)), zg 66 62 true (.bin .eql (zt 65) (zi 0)), zr 67 (.pick (zt 62) (zt 66) (.const (.bool false))), zr 68 (.mv (zt 67)), zg 69 68 true (.mv (zt 9)), ⟨(some 70), (some (68, true)), (.c (.fn 17 [(zt 69)])), []⟩, zg 71 68 true (.bld [(.string ⟨#[]⟩), (.int .i64 0), (.int .i64 0), (.int .i64 0)] []), zg 72 68 true (.eq false (.recd [(0, 0, .str), (1, 0, .int), (2, 0, .int), (3, 0, .int)]) (zt 70) (zt 71)), zr 73 (.pick (zt 68) (zt 72) (.const (.bool false))), za 6 (zt 73)])
  .ret)))
def rc8_3 : RC := (.seq (.seq (.run [za 10 (zi 0)])
  (.block 0 (.loop rc8_1)))
  rc8_2)
def rc8_4 : RC := (.seq (.run [zr 18 (.ldn 2 (zt 3)), zr 19 (.bld [(.string ⟨#[]⟩), (.int .i64 0), (.int .i64 0), (.int .i64 0)] [(0, 1, (.const (.string ⟨#[97]⟩)))]), zr 20 (.mv (zt 1)), zr 21 (.mv (zt 2)), ⟨(some 22), none, (.c (.fn 11 [(zt 20), (zt 21)])), [(18, none, .ldn 2 (zt 3))]⟩, zc 23 12 [(zt 18), (zt 19), (zt 22)], zr 17 (.mv (zt 23)), zr 24 (.ext 0 (zt 17)), zr 25 (.ext 1 (zt 17)), za 7 (zt 24), za 8 (zt 25)])
  (.seq (.run [zr 26 (.ldn 2 (zt 3)), zc 27 13 [(zt 26)], za 9 (zt 27)])
  (.seq (.seq (.run [zr 28 (.mv (zt 8)), zr 29 (.eq true (.iface []) (zt 28) (.const .nilIface))])
  (.cond (zt 29)
  (.seq (.run [za 6 (.const (.bool false))])
  .ret)
  .skip))
  rc8_3)))
def rc8 : RC := (.seq (.run [zf 3 (.bx 23 (zt 0)), za 6 (.const (.bool false))])
  (.seq (.seq (.run [zc 15 9 [], zr 16 (.not (zt 15))])
  (.cond (zt 16)
  (.seq (.run [za 6 (.const (.bool false))])
  .ret)
  .skip))
  rc8_4))
def ce8 : List (Nat × List Nat × List Nat) := [(3, [0, 1, 2, 3, 4, 5, 6, 7, 8, 9, 10], [0, 0, 0, 0, 12, 31, 63, 127, 127, 255, 1023])]
def ro8 : List RO := [(.mv (zt 6))]
theorem ok8 : okFn Tryz.prog 8 74 ce8 = some (rc8, ro8) := by kernel_rfl
def rc9_0 : RC := (.seq (.run [zr 26 (.mv (zt 2)), zr 27 (.mv (zt 4)), zc 28 14 [(zt 26), (zt 27), (zi 40)]])
  (.seq (.run [zr 30 (.mv (zt 4)), zc 31 16 [(zt 30)], zr 29 (.mv (zt 31)), zr 32 (.ext 0 (zt 29)), zr 33 (.ext 1 (zt 29)), za 5 (zt 32), za 6 (zt 33)])
  (.seq (.run [zr 35 (.mv (zt 2)), zc 36 15 [(zt 35)], zr 34 (.mv (zt 36)), zr 37 (.ext 0 (zt 34)), zr 38 (.ext 1 (zt 34)), za 7 (zt 37), za 8 (zt 38)])
  (.seq (.run [zr 39 (.mv (zt 3)), zr 40 (.eq false (.iface []) (zt 39) (.const .nilIface)), zr 41 (.mv (zt 40)), zg 42 41 true (.mv (zt 5)), zr 43 (.pick (zt 41) (zt 42) (.const (.bool false))), zr 44 (.mv (zt 43)), zg 45 44 true (.mv (zt 6)), zg 46 44 true (.eq false (.iface []) (zt 45) (.const .nilIface)), zr 47 (.pick (zt 44) (zt 46) (.const (.bool false))), zr 48 (.mv (zt 47)), zg 49 48 true (.mv (zt 7)), zr 50 (.pick (zt 48) (zt 49) (.const (.bool false))), zr 51 (.mv (zt 50)), zg 52 51 true (.mv (zt 8)), zg 53 51 true (.eq false (.iface []) (zt 52) (.const .nilIface)), zr 54 (.pick (zt 51) (zt 53) (.const (.bool false))), zr 55 (.mv (zt 54)), zg 56 55 true (.mv (zt 4)), ⟨(some 57), (some (55, true)), (.c (.fn 18 [(zt 56)])), []⟩, zg 58 55 true (.b2s (zt 57)), zg 59 55 true (.bin .eql (zt 58) (.const (.string ⟨#[120, 121, 122]⟩))), zr 60 (.pick (zt 55) (zt 59) (.const (.bool false))), zr 61 (.mv (zt 60)), zg 62 61 true (.mv (zt 4)), ⟨(some 63), (some (61, true)), (.c (.fn 17 [(zt 62)])), []⟩, zg 64 61 true (.bld [(.string ⟨#[]⟩), (.int .i64 0), (.int .i64 0), (.int .i64 0)] [(0, 1, (.const (.string ⟨#[97]⟩))), (1, 1, (zi 3))]), zg 65 61 true (.eq false (.recd [(0, 0, .str), (1, 0, .int), (2, 0, .int), (3, 0, .int)]) (zt 63) (zt 64)), zr 66 (.pick (zt 61) (zt 65) (.const (.bool false))), za 0 (zt 66)])
  .ret))))
def rc9 : RC := (.seq (.run [za 0 (.const (.bool false))])
  (.seq (.run [zr 9 (.bld [(.int .i64 0), (.int .i64 0)] [(0, 1, (zi 3)), (1, 1, (zi 5))]), zf 1 (.al [(.int .i64 0), (.int .i64 0)] 23), ze (.st 2 (zt 1) (zt 9))])
  (.seq (.run [zr 11 (.ldn 2 (zt 1)), zr 12 (.bld [(.string ⟨#[]⟩), (.int .i64 0), (.int .i64 0), (.int .i64 0)] [(0, 1, (.const (.string ⟨#[97]⟩)))]), zf 13 (.bsl 5 1 3 [(.int .u8 0), (.int .u8 0), (.int .u8 0)] [(0, 1, (.const (.int .u8 120))), (1, 1, (.const (.int .u8 121))), (2, 1, (.const (.int .u8 122)))]), zf 14 (.cvm 5 (zt 13)), zc 15 12 [(zt 11), (zt 12), (zt 14)], zr 10 (.mv (zt 15)), zr 16 (.ext 0 (zt 10)), zr 17 (.ext 1 (zt 10)), za 2 (zt 16), za 3 (zt 17)])
  (.seq (.run [zr 18 (.ldn 2 (zt 1)), zc 19 13 [(zt 18)], za 4 (zt 19)])
  (.seq (.seq (.run [zr 20 (.mv (zt 2)), zr 21 (.eq false .ptr (zt 20) (.const (.pointer none))), zr 22 (.mv (zt 21)), zg 23 22 false (.mv (zt 4)), zg 24 22 false (.eq false .ptr (zt 23) (.const (.pointer none))), zr 25 (.pick (zt 22) (.const (.bool true)) (zt 24))])
  (.cond (zt 25)
  (.seq (.run [za 0 (.const (.bool false))])
  .ret)
  .skip))
  rc9_0)))))
def ce9 : List (Nat × List Nat × List Nat) := []
def ro9 : List RO := [(.mv (zt 0))]
theorem ok9 : okFn Tryz.prog 9 67 ce9 = some (rc9, ro9) := by kernel_rfl
def rc11_0 : RC := (.seq (.block 1 (.seq (.run [zr 15 (.mv (zt 13)), za 6 (zt 15)])
  (.seq (.run [zr 16 (.mv (zt 0)), zr 17 (.lenl (zt 16)), zr 18 (.bin .gtr (zt 17) (zi 0))])
  (.cond (zt 18)
  (.run [zr 19 (.mv (zt 5)), zr 20 (.mv (zt 6)), zr 21 (.mv (zt 0)), zr 22 (.mv (zt 6)), zr 23 (.mv (zt 0)), zr 24 (.lenl (zt 23)), zr 25 (.bin .rem (zt 22) (zt 24)), zr 26 (.ia 1 (zt 21) (zt 25)), zr 27 (.ld (zt 26)), zr 28 (.mv (zt 6)), zr 29 (.bin .quo (zt 28) (zi 97)), zr 30 (.cvi .u8 (zt 29)), zr 31 (.bin .add (zt 27) (zt 30)), zr 32 (.ia 1 (zt 19) (zt 20)), ze (.st 1 (zt 32) (zt 31))])
  .skip))))
  (.run [zr 33 (.bin .add (zt 13) (zi 1)), zr 13 (.mv (zt 33))]))
def rc11_1 : RC := (.seq (.run [zr 14 (.bin .lss (zt 13) (zt 12))])
  (.seq (.cond (zt 14)
  .skip
  (.exit 0))
  rc11_0))
def rc11_2 : RC := (.seq (.run [zr 34 (.mv (zt 5)), za 4 (zt 34)])
  .ret)
def rc11 : RC := (.seq (.run [za 4 (.const (.slice none 0 0))])
  (.seq (.run [zr 7 (.mv (zt 1)), zr 8 (.cvi .i64 (zt 7)), zr 9 (.bin .rem (zt 8) (zi 2500)), zf 10 (.mks 5 1 (.int .u8 0) (zt 9) (zt 9)), za 5 (zt 10)])
  (.seq (.seq (.run [zr 11 (.mv (zt 5)), zr 12 (.lenl (zt 11)), zr 13 (.mv (zi 0))])
  (.block 0 (.loop rc11_1)))
  rc11_2)))
def ce11 : List (Nat × List Nat × List Nat) := []
def ro11 : List RO := [(.mv (zt 4))]
theorem ok11 : okFn Tryz.prog 11 35 ce11 = some (rc11, ro11) := by kernel_rfl
def rc12_0 : RC := (.seq (.run [zr 24 (.ldn 2 (zt 3)), zr 25 (.mv (zt 8)), zr 26 (.bld [(.int .u8 0), (.slice none 0 0)] [(1, 1, (zt 25))]), zf 27 (.bsl 50 2 1 [(.int .u8 0), (.slice none 0 0)] [(0, 2, (zt 26))]), zc 28 40 [(zt 24), (zt 27), (.const (.bool true)), (.const (.bool false))], za 10 (zt 28)])
  (.seq (.run [zr 29 (.ldn 2 (zt 3)), zr 30 (.mv (zt 2)), ⟨(some 31), none, (.c (.fn 22 [(zt 30), (.const (.bool true))])), [(29, none, .ldn 2 (zt 3))]⟩, ⟨(some 32), none, (.c (.fn 21 [(zt 31)])), [(29, none, .ldn 2 (zt 3))]⟩, zc 33 40 [(zt 29), (zt 32), (.const (.bool true)), (.const (.bool true))], za 11 (zt 33)])
  (.seq (.run [zr 34 (.ldn 2 (zt 3)), ⟨(some 35), none, (.c (.fn 41 [])), [(34, none, .ldn 2 (zt 3))]⟩, zr 36 (.bld [(.int .u8 0), (.slice none 0 0)] [(1, 1, (zt 35))]), ⟨(some 37), none, (.e (.bsl 50 2 1 [(.int .u8 0), (.slice none 0 0)] [(0, 2, (zt 36))])), [(34, none, .ldn 2 (zt 3))]⟩, zc 38 40 [(zt 34), (zt 37), (.const (.bool true)), (.const (.bool false))], za 12 (zt 38)])
  (.seq (.run [zr 39 (.ldn 2 (zt 3)), zr 40 (.mv (zt 10)), zr 41 (.mv (zt 11)), zr 42 (.mv (zt 12)), zf 43 (.bsl 78 1 2 [(.pointer none), (.pointer none)] [(0, 1, (zt 41)), (1, 1, (zt 42))]), zr 44 (.bld [(.int .i64 0), (.int .i64 0), (.pointer none), (.slice none 0 0), .nilIface, (.bool false)] [(0, 2, (zt 39)), (2, 1, (zt 40)), (3, 1, (zt 43))]), zf 45 (.bx 82 (zt 44)), za 6 (zt 45), za 7 (.const .nilIface)])
  .ret))))
def rc12 : RC := (.seq (.run [zf 3 (.bx 23 (zt 0)), zf 4 (.bx 30 (zt 1)), za 6 (.const (.pointer none)), za 7 (.const .nilIface)])
  (.seq (.run [zr 13 (.mv (zt 2)), zr 14 (.lenl (zt 13)), zr 15 (.fa 1 (zt 4)), ze (.st 1 (zt 15) (zt 14))])
  (.seq (.run [zr 17 (.ldn 4 (zt 4)), zc 18 19 [(zt 17)], zr 16 (.mv (zt 18)), zr 19 (.ext 0 (zt 16)), zr 20 (.ext 1 (zt 16)), za 8 (zt 19), za 9 (zt 20)])
  (.seq (.seq (.run [zr 21 (.mv (zt 9)), zr 22 (.not (zt 21))])
  (.cond (zt 22)
  (.seq (.run [zr 23 (.mki 71 (zi 14)), za 6 (.const (.pointer none)), za 7 (zt 23)])
  .ret)
  .skip))
  rc12_0))))
def ce12 : List (Nat × List Nat × List Nat) := [(6, [0, 1, 2, 3, 4, 5], [0, 0, 2, 6, 15, 31]), (7, [0, 1, 2, 3, 4, 5], [0, 0, 2, 6, 15, 31])]
def ro12 : List RO := [(.mv (zt 6)), (.mv (zt 7))]
theorem ok12 : okFn Tryz.prog 12 46 ce12 = some (rc12, ro12) := by kernel_rfl
def rc13 : RC := (.seq (.run [zf 1 (.bx 23 (zt 0)), za 2 (.const (.pointer none))])
  (.seq (.run [zr 3 (.ldn 2 (zt 1)), zr 4 (.ldn 2 (zt 1)), ⟨(some 5), none, (.c (.fn 42 [(zt 4), (.const (.int .u8 0)), (.const (.bool true)), (.const (.bool false)), (zi 1)])), [(3, none, .ldn 2 (zt 1))]⟩, zr 6 (.bld [(.int .i64 0), (.int .i64 0), (.pointer none), (.int .i64 0), (.string ⟨#[]⟩), (.int .i64 0), (.int .i64 0), (.int .i64 0), (.slice none 0 0), (.bool false), .nilIface] [(0, 2, (zt 3)), (2, 1, (zt 5))]), zf 7 (.bx 86 (zt 6)), za 2 (zt 7)])
  .ret))
def ce13 : List (Nat × List Nat × List Nat) := [(1, [0, 1, 2, 3, 4, 5], [0, 0, 2, 7, 15, 31])]
def ro13 : List RO := [(.mv (zt 2))]
theorem ok13 : okFn Tryz.prog 13 8 ce13 = some (rc13, ro13) := by kernel_rfl
def rc14_0 : RC := (.seq (.block 3 (.seq (.run [zr 26 (.ia 1 (zt 22) (zt 24)), zr 27 (.ld (zt 26)), za 10 (zt 27)])
  (.run [zr 28 (.mv (zt 8)), zr 29 (.mv (zt 0)), zr 30 (.mv (zt 10)), zc 31 24 [(zt 29), (zt 30)], zf 32 (.app 5 1 1 (zt 28) (zt 31)), za 8 (zt 32)])))
  (.run [zr 33 (.bin .add (zt 24) (zi 1)), zr 24 (.mv (zt 33))]))
def rc14_1 : RC := (.seq (.run [zr 25 (.bin .lss (zt 24) (zt 23))])
  (.seq (.cond (zt 25)
  .skip
  (.exit 2))
  rc14_0))
def rc14_2 : RC := (.seq (.run [za 6 (.const (.slice none 0 0))])
  (.seq (.run [zr 34 (.mv (zt 8)), zr 35 (.lenl (zt 34)), zr 36 (.bin .gtr (zt 35) (zi 0))])
  (.cond (zt 36)
  (.run [zr 37 (.mv (zt 1)), zr 38 (.mv (zt 8)), zc 39 33 [(zt 37), (zt 38)], za 6 (zt 39)])
  .skip)))
def rc14_3 : RC := (.seq (.block 1 (.seq (.run [zr 16 (.mv (zt 6)), zr 17 (.mv (zt 1)), zc 18 29 [(zt 17)], zf 19 (.app 5 1 1 (zt 16) (zt 18)), za 6 (zt 19)])
  (.seq (.run [zr 20 (.mv (zt 0)), zc 21 23 [(zt 20)], za 8 (zt 21)])
  (.seq (.seq (.run [zr 22 (.mv (zt 6)), zr 23 (.lenl (zt 22)), zr 24 (.mv (zi 0))])
  (.block 2 (.loop rc14_1)))
  rc14_2))))
  (.run [zr 14 (.mv (zt 7)), zr 15 (.bin .add (zt 14) (zi 1)), za 7 (zt 15)]))
def rc14_4 : RC := (.seq (.seq (.run [zr 11 (.mv (zt 7)), zr 12 (.mv (zt 2)), zr 13 (.bin .lss (zt 11) (zt 12))])
  (.cond (zt 13)
  .skip
  (.exit 0)))
  rc14_3)
def rc14 : RC := (.seq (.run [za 6 (.const (.slice none 0 0))])
  (.seq (.run [za 7 (zi 0)])
  (.block 0 (.loop rc14_4))))
def ce14 : List (Nat × List Nat × List Nat) := []
def ro14 : List RO := []
theorem ok14 : okFn Tryz.prog 14 40 ce14 = some (rc14, ro14) := by kernel_rfl
def rc15 : RC := (.seq (.run [za 2 (.const (.bool false)), za 3 (.const .nilIface)])
  (.seq (.run [zr 4 (.mv (zt 0)), zr 5 (.nck (zt 4)), zr 6 (.fa 5 (zt 5)), zr 7 (.ld (zt 6)), zr 8 (.mv (zt 0)), zr 9 (.nck (zt 8)), zr 10 (.fa 4 (zt 9)), zr 11 (.ld (zt 10)), ⟨(some 2), none, (.a (zt 7)), [(11, none, .ld (zt 10))]⟩, za 3 (zt 11)])
  .ret))
def ce15 : List (Nat × List Nat × List Nat) := [(1, [0, 1, 2, 3, 4, 5, 6, 7, 8, 9], [0, 1, 3, 7, 0, 16, 48, 112, 15, 511])]
def ro15 : List RO := [(.mv (zt 2)), (.mv (zt 3))]
theorem ok15 : okFn Tryz.prog 15 12 ce15 = some (rc15, ro15) := by kernel_rfl
def rc16 : RC := (.seq (.run [za 2 (.const (.bool false)), za 3 (.const .nilIface)])
  (.seq (.run [zr 4 (.mv (zt 0)), zr 5 (.nck (zt 4)), zr 6 (.fa 9 (zt 5)), zr 7 (.ld (zt 6)), zr 8 (.mv (zt 0)), zr 9 (.nck (zt 8)), zr 10 (.fa 10 (zt 9)), zr 11 (.ld (zt 10)), ⟨(some 2), none, (.a (zt 7)), [(11, none, .ld (zt 10))]⟩, za 3 (zt 11)])
  .ret))
def ce16 : List (Nat × List Nat × List Nat) := [(1, [0, 1, 2, 3, 4, 5, 6, 7, 8, 9], [0, 1, 3, 7, 0, 16, 48, 112, 15, 511])]
def ro16 : List RO := [(.mv (zt 2)), (.mv (zt 3))]
theorem ok16 : okFn Tryz.prog 16 12 ce16 = some (rc16, ro16) := by kernel_rfl
def rc17 : RC := (.seq (.run [zf 2 (.al [(.string ⟨#[]⟩), (.int .i64 0), (.int .i64 0), (.int .i64 0)] 30)])
  (.seq (.run [zr 3 (.mv (zt 0)), zr 4 (.nck (zt 3)), zr 5 (.fa 4 (zt 4)), zr 6 (.ldn 4 (zt 5)), ze (.st 4 (zt 2) (zt 6))])
  .ret))
def ce17 : List (Nat × List Nat × List Nat) := []
def ro17 : List RO := [(.ldn 4 (zt 2))]
theorem ok17 : okFn Tryz.prog 17 7 ce17 = some (rc17, ro17) := by kernel_rfl
def rc18 : RC := (.seq (.run [za 2 (.const (.slice none 0 0))])
  (.seq (.run [zr 3 (.mv (zt 0)), zr 4 (.nck (zt 3)), zr 5 (.fa 8 (zt 4)), zr 6 (.ld (zt 5)), zf 7 (.app 5 1 1 (.const (.slice none 0 0)) (zt 6)), za 2 (zt 7)])
  .ret))
def ce18 : List (Nat × List Nat × List Nat) := []
def ro18 : List RO := [(.mv (zt 2))]
theorem ok18 : okFn Tryz.prog 18 8 ce18 = some (rc18, ro18) := by kernel_rfl
def rc19_0 : RC := (.seq (.run [zr 9 (.fa 1 (zt 1)), zr 10 (.ld (zt 9)), zr 12 (.fa 2 (zt 1)), zr 13 (.ld (zt 12)), zr 15 (.fa 3 (zt 1)), zr 16 (.ld (zt 15)), ⟨(some 11), none, (.c (.fn 43 [(zt 10)])), [(13, none, .ld (zt 12)), (16, none, .ld (zt 15))]⟩, ⟨(some 14), none, (.c (.fn 44 [(zt 13), (zi 8)])), [(16, none, .ld (zt 15))]⟩, zc 17 44 [(zt 16), (zi 8)], zf 18 (.bsl 9 1 3 [(.string ⟨#[]⟩), (.string ⟨#[]⟩), (.string ⟨#[]⟩)] [(0, 1, (zt 11)), (1, 1, (zt 14)), (2, 1, (zt 17))]), za 4 (zt 18)])
  (.seq (.run [zf 19 (.mks 5 1 (.int .u8 0) (zi 128) (zi 128)), za 5 (zt 19)])
  (.seq (.run [zr 20 (.mv (zt 5)), zr 21 (.fa 0 (zt 1)), zr 22 (.ld (zt 21)), zr 23 (.bin .add (zt 22) (.const (.string ⟨#[0]⟩))), zr 24 (.mv (zt 4)), ⟨(some 25), none, (.c (.fn 45 [(zt 24), (.const (.string ⟨#[32]⟩))])), [(22, none, .ld (zt 21))]⟩, zr 26 (.bin .add (zt 23) (zt 25)), zf 27 (.cpy 1 (zt 20) (zt 26))])
  (.seq (.run [zr 28 (.mv (zt 5)), za 2 (zt 28), za 3 (.const (.bool true))])
  .ret))))
def rc19 : RC := (.seq (.run [zf 1 (.bx 30 (zt 0)), za 2 (.const (.slice none 0 0)), za 3 (.const (.bool false))])
  (.seq (.seq (.run [zr 6 (.ldn 4 (zt 1)), zc 7 38 [(zt 6)], zr 8 (.not (zt 7))])
  (.cond (zt 8)
  (.seq (.run [za 2 (.const (.slice none 0 0)), za 3 (.const (.bool false))])
  .ret)
  .skip))
  rc19_0))
def ce19 : List (Nat × List Nat × List Nat) := [(3, [0, 1, 3, 4, 6, 7, 2, 5, 8, 9, 10], [0, 1, 3, 0, 8, 31, 0, 64, 255, 511, 1023]), (5, [0, 1, 2, 3, 4, 5, 6, 7], [0, 0, 2, 6, 0, 16, 62, 127])]
def ro19 : List RO := [(.mv (zt 2)), (.mv (zt 3))]
theorem ok19 : okFn Tryz.prog 19 29 ce19 = some (rc19, ro19) := by kernel_rfl
def rc21_0 : RC := (.seq (.block 1 (.seq (.run [zr 10 (.mv (zt 8)), zr 11 (.ia 1 (zt 6) (zt 8)), zr 12 (.ld (zt 11)), za 4 (zt 10), za 5 (zt 12)])
  (.run [zr 13 (.mv (zt 3)), zr 14 (.mv (zt 4)), zr 15 (.bin .add (zt 14) (zi 1)), zr 16 (.cvi .u8 (zt 15)), zr 17 (.mv (zt 5)), zf 18 (.app 5 1 1 (.const (.slice none 0 0)) (zt 17)), zr 19 (.bld [(.int .u8 0), (.slice none 0 0)] [(0, 1, (zt 16)), (1, 1, (zt 18))]), zf 20 (.bsl 50 2 1 [(.int .u8 0), (.slice none 0 0)] [(0, 2, (zt 19))]), zf 21 (.app 50 2 32 (zt 13) (zt 20)), za 3 (zt 21)])))
  (.run [zr 22 (.bin .add (zt 8) (zi 1)), zr 8 (.mv (zt 22))]))
def rc21_1 : RC := (.seq (.run [zr 9 (.bin .lss (zt 8) (zt 7))])
  (.seq (.cond (zt 9)
  .skip
  (.exit 0))
  rc21_0))
def rc21_2 : RC := (.seq (.run [zr 23 (.mv (zt 3)), za 2 (zt 23)])
  .ret)
def rc21 : RC := (.seq (.run [za 2 (.const (.slice none 0 0))])
  (.seq (.run [za 3 (.const (.slice none 0 0))])
  (.seq (.seq (.run [zr 6 (.mv (zt 0)), zr 7 (.lenl (zt 6)), zr 8 (.mv (zi 0))])
  (.block 0 (.loop rc21_1)))
  rc21_2)))
def ce21 : List (Nat × List Nat × List Nat) := []
def ro21 : List RO := [(.mv (zt 2))]
theorem ok21 : okFn Tryz.prog 21 24 ce21 = some (rc21, ro21) := by kernel_rfl
def rc22_0 : RC := (.block 3 (.run [zr 32 (.mv (zt 7)), zf 33 (.bsl 5 1 1 [(.int .u8 0)] [(0, 1, (.const (.int .u8 26)))]), zf 34 (.app 5 1 1 (zt 32) (zt 33)), za 7 (zt 34)]))
def rc22_1 : RC := (.seq (.seq (.run [zr 28 (.mv (zt 7)), zr 29 (.lenl (zt 28)), zr 30 (.mv (zt 6)), zr 31 (.bin .lss (zt 29) (zt 30))])
  (.cond (zt 31)
  .skip
  (.exit 2)))
  rc22_0)
def rc22_2 : RC := (.seq (.run [zr 17 (.mv (zt 0)), zr 18 (.mv (zt 6)), zr 19 (.mv (zt 0)), zr 20 (.lenl (zt 19)), zr 21 (.mn (zt 18) (zt 20)), zr 22 (.sl 1 (zt 17) none (some (zt 21))), zf 23 (.app 5 1 1 (.const (.slice none 0 0)) (zt 22)), za 7 (zt 23)])
  (.seq (.run [zr 24 (.mv (zt 0)), zr 25 (.mv (zt 7)), zr 26 (.lenl (zt 25)), zr 27 (.sl 1 (zt 24) (some (zt 26)) none), za 0 (zt 27)])
  (.seq (.block 2 (.loop rc22_1))
  (.run [zr 35 (.mv (zt 5)), zr 36 (.mv (zt 7)), zf 37 (.bsl 24 1 1 [(.slice none 0 0)] [(0, 1, (zt 36))]), zf 38 (.app 24 1 24 (zt 35) (zt 37)), za 5 (zt 38)]))))
def rc22_3 : RC := (.block 1 (.seq (.run [za 6 (zi 128)])
  (.seq (.seq (.run [zr 11 (.mv (zt 1)), zr 12 (.mv (zt 11)), zg 13 12 true (.mv (zt 0)), zg 14 12 true (.lenl (zt 13)), zg 15 12 true (.bin .geq (zt 14) (zi 1024)), zr 16 (.pick (zt 12) (zt 15) (.const (.bool false)))])
  (.cond (zt 16)
  (.run [za 6 (zi 1024)])
  .skip))
  rc22_2)))
def rc22_4 : RC := (.seq (.seq (.run [zr 8 (.mv (zt 0)), zr 9 (.lenl (zt 8)), zr 10 (.bin .gtr (zt 9) (zi 0))])
  (.cond (zt 10)
  .skip
  (.exit 0)))
  rc22_3)
def rc22_5 : RC := (.seq (.run [zr 39 (.mv (zt 5)), za 4 (zt 39)])
  .ret)
def rc22 : RC := (.seq (.run [za 4 (.const (.slice none 0 0))])
  (.seq (.run [za 5 (.const (.slice none 0 0))])
  (.seq (.block 0 (.loop rc22_4))
  rc22_5)))
def ce22 : List (Nat × List Nat × List Nat) := []
def ro22 : List RO := [(.mv (zt 4))]
theorem ok22 : okFn Tryz.prog 22 40 ce22 = some (rc22, ro22) := by kernel_rfl
def rc23_0 : RC := (.seq (.run [zr 7 (.mv (zt 0)), zr 8 (.mv (zt 0)), zr 9 (.nck (zt 8)), zr 10 (.fa 2 (zt 9)), zr 11 (.ld (zt 10)), zc 12 47 [(zt 11)], zc 13 46 [(zt 7), (zt 12)], za 2 (zt 13)])
  .ret)
def rc23 : RC := (.seq (.run [za 2 (.const (.slice none 0 0))])
  (.seq (.seq (.run [zr 3 (.mv (zt 0)), zr 4 (.nck (zt 3)), zr 5 (.fa 5 (zt 4)), zr 6 (.ld (zt 5))])
  (.cond (zt 6)
  (.seq (.run [za 2 (.const (.slice none 0 0))])
  .ret)
  .skip))
  rc23_0))
def ce23 : List (Nat × List Nat × List Nat) := []
def ro23 : List RO := [(.mv (zt 2))]
theorem ok23 : okFn Tryz.prog 23 14 ce23 = some (rc23, ro23) := by kernel_rfl
def rc24_0 : RC := (.seq (.run [zr 9 (.mv (zt 0)), zr 10 (.mv (zt 0)), zr 11 (.nck (zt 10)), zr 12 (.fa 2 (zt 11)), zr 13 (.ld (zt 12)), zr 14 (.mv (zt 1)), zc 15 48 [(zt 13), (zt 14)], zc 16 46 [(zt 9), (zt 15)], za 4 (zt 16)])
  .ret)
def rc24 : RC := (.seq (.run [za 4 (.const (.slice none 0 0))])
  (.seq (.seq (.run [zr 5 (.mv (zt 0)), zr 6 (.nck (zt 5)), zr 7 (.fa 5 (zt 6)), zr 8 (.ld (zt 7))])
  (.cond (zt 8)
  (.seq (.run [za 4 (.const (.slice none 0 0))])
  .ret)
  .skip))
  rc24_0))
def ce24 : List (Nat × List Nat × List Nat) := []
def ro24 : List RO := [(.mv (zt 4))]
theorem ok24 : okFn Tryz.prog 24 17 ce24 = some (rc24, ro24) := by kernel_rfl
def rc29_0 : RC := (.seq (.run [zr 7 (.mv (zt 0)), zr 8 (.mv (zt 0)), zr 9 (.nck (zt 8)), zr 10 (.fa 2 (zt 9)), zr 11 (.ld (zt 10)), zc 12 52 [(zt 11)], zc 13 51 [(zt 7), (zt 12)], za 2 (zt 13)])
  .ret)
def rc29 : RC := (.seq (.run [za 2 (.const (.slice none 0 0))])
  (.seq (.seq (.run [zr 3 (.mv (zt 0)), zr 4 (.nck (zt 3)), zr 5 (.fa 9 (zt 4)), zr 6 (.ld (zt 5))])
  (.cond (zt 6)
  (.seq (.run [za 2 (.const (.slice none 0 0))])
  .ret)
  .skip))
  rc29_0))
def ce29 : List (Nat × List Nat × List Nat) := []
def ro29 : List RO := [(.mv (zt 2))]
theorem ok29 : okFn Tryz.prog 29 14 ce29 = some (rc29, ro29) := by kernel_rfl
def rc32_0 : RC := (.seq (.run [zr 15 (.mv (zt 6)), zr 16 (.fa 0 (zt 2)), zr 17 (.ld (zt 16)), zr 18 (.fa 0 (zt 2)), zr 19 (.ld (zt 18)), zr 20 (.com (zt 19)), zf 21 (.bsl 5 1 3 [(.int .u8 0), (.int .u8 0), (.int .u8 0)] [(0, 1, (zt 15)), (1, 1, (zt 17)), (2, 1, (zt 20))]), zr 22 (.fa 1 (zt 2)), zr 23 (.ld (zt 22)), zf 24 (.app 5 1 1 (zt 21) (zt 23)), za 7 (zt 24)])
  (.seq (.run [zr 25 (.mv (zt 7)), zr 26 (.fa 1 (zt 2)), zr 27 (.ld (zt 26)), zr 28 (.mv (zt 1)), zc 29 55 [(zt 27), (zt 28)], zf 30 (.app 5 1 1 (zt 25) (zt 29)), za 4 (zt 30), za 5 (.const (.bool true))])
  .ret))
def rc32 : RC := (.seq (.run [zf 2 (.bx 50 (zt 0)), za 4 (.const (.slice none 0 0)), za 5 (.const (.bool false))])
  (.seq (.run [za 6 (.const (.int .u8 1))])
  (.seq (.seq (.run [zr 8 (.fa 1 (zt 2)), zr 9 (.ld (zt 8)), zr 10 (.lenl (zt 9))])
  (.block 0 (.seq (.run [zr 12 (.bin .eql (zt 10) (zi 128)), za 11 (zt 12)])
  (.cond (zt 11)
  .skip
  (.seq (.run [zr 14 (.bin .eql (zt 10) (zi 1024)), za 13 (zt 14)])
  (.cond (zt 13)
  (.run [za 6 (.const (.int .u8 2))])
  (.seq (.run [za 4 (.const (.slice none 0 0)), za 5 (.const (.bool false))])
  .ret)))))))
  rc32_0)))
def ce32 : List (Nat × List Nat × List Nat) := []
def ro32 : List RO := [(.mv (zt 4)), (.mv (zt 5))]
theorem ok32 : okFn Tryz.prog 32 31 ce32 = some (rc32, ro32) := by kernel_rfl
def rc33_0 : RC := (.seq (.run [zr 9 (.mv (zt 0)), zr 10 (.mv (zt 0)), zr 11 (.nck (zt 10)), zr 12 (.fa 2 (zt 11)), zr 13 (.ld (zt 12)), zr 14 (.mv (zt 1)), zc 15 56 [(zt 13), (zt 14)], zc 16 51 [(zt 9), (zt 15)], za 4 (zt 16)])
  .ret)
def rc33 : RC := (.seq (.run [za 4 (.const (.slice none 0 0))])
  (.seq (.seq (.run [zr 5 (.mv (zt 0)), zr 6 (.nck (zt 5)), zr 7 (.fa 9 (zt 6)), zr 8 (.ld (zt 7))])
  (.cond (zt 8)
  (.seq (.run [za 4 (.const (.slice none 0 0))])
  .ret)
  .skip))
  rc33_0))
def ce33 : List (Nat × List Nat × List Nat) := []
def ro33 : List RO := [(.mv (zt 4))]
theorem ok33 : okFn Tryz.prog 33 17 ce33 = some (rc33, ro33) := by kernel_rfl
def rc37_0 : RC := (.seq (.run [zr 75 (.ldn 4 (zt 14)), ze (.st 4 (zt 2) (zt 75)), za 3 (.const (.bool true))])
  .ret)
def rc37_1 : RC := (.seq (.run [zr 34 (.mv (zt 7)), zr 35 (.ia 1 (zt 34) (zi 0)), zr 36 (.ld (zt 35)), zc 37 61 [(zt 36), (zi 10), (zi 8192)], zr 33 (.mv (zt 37)), zr 38 (.ext 0 (zt 33)), zr 39 (.ext 1 (zt 33)), za 8 (zt 38), za 9 (zt 39)])
  (.seq (.run [zr 41 (.mv (zt 7)), zr 42 (.ia 1 (zt 41) (zi 1)), zr 43 (.ld (zt 42)), zc 44 61 [(zt 43), (zi 8), (zi 4294967295)], zr 40 (.mv (zt 44)), zr 45 (.ext 0 (zt 40)), zr 46 (.ext 1 (zt 40)), za 10 (zt 45), za 11 (zt 46)])
  (.seq (.run [zr 48 (.mv (zt 7)), zr 49 (.ia 1 (zt 48) (zi 2)), zr 50 (.ld (zt 49)), zc 51 61 [(zt 50), (zi 8), (zi 65535)], zr 47 (.mv (zt 51)), zr 52 (.ext 0 (zt 47)), zr 53 (.ext 1 (zt 47)), za 12 (zt 52), za 13 (zt 53)])
  (.seq (.run [zr 54 (.mv (zt 4)), zr 55 (.mv (zt 8)), zr 56 (.mv (zt 10)), zr 57 (.mv (zt 12)), zr 58 (.bld [(.string ⟨#[]⟩), (.int .i64 0), (.int .i64 0), (.int .i64 0)] [(0, 1, (zt 54)), (1, 1, (zt 55)), (2, 1, (zt 56)), (3, 1, (zt 57))]), zf 14 (.al [(.string ⟨#[]⟩), (.int .i64 0), (.int .i64 0), (.int .i64 0)] 30), ze (.st 4 (zt 14) (zt 58))])
  (.seq (.seq (.run [zr 59 (.mv (zt 9)), zr 60 (.not (zt 59)), zr 61 (.mv (zt 60)), zg 62 61 false (.mv (zt 11)), zg 63 61 false (.not (zt 62)), zr 64 (.pick (zt 61) (.const (.bool true)) (zt 63)), zr 65 (.mv (zt 64)), zg 66 65 false (.mv (zt 13)), zg 67 65 false (.not (zt 66)), zr 68 (.pick (zt 65) (.const (.bool true)) (zt 67)), zr 69 (.mv (zt 68)), zg 70 69 false (.ldn 4 (zt 14)), ⟨(some 71), (some (69, false)), (.c (.fn 38 [(zt 70)])), []⟩, zg 72 69 false (.not (zt 71)), zr 73 (.pick (zt 69) (.const (.bool true)) (zt 72))])
  (.cond (zt 73)
  (.seq (.run [zr 74 (.bld [(.string ⟨#[]⟩), (.int .i64 0), (.int .i64 0), (.int .i64 0)] []), ze (.st 4 (zt 2) (zt 74)), za 3 (.const (.bool false))])
  .ret)
  .skip))
  rc37_0)))))
def rc37_2 : RC := (.seq (.run [zr 20 (.mv (zt 0)), zr 21 (.b2s (zt 20)), zc 22 58 [(zt 21), (.const (.string ⟨#[0]⟩))], zr 19 (.mv (zt 22)), zr 23 (.ext 0 (zt 19)), zr 24 (.ext 1 (zt 19)), zr 25 (.ext 2 (zt 19)), za 4 (zt 23), za 5 (zt 24), za 6 (zt 25)])
  (.seq (.run [zr 26 (.mv (zt 5)), zc 27 60 [(zt 26), (.const (.string ⟨#[0]⟩))], zc 28 59 [(zt 27), (.const (.string ⟨#[32]⟩))], za 7 (zt 28)])
  (.seq (.seq (.run [zr 29 (.mv (zt 7)), zr 30 (.lenl (zt 29)), zr 31 (.bin .neq (zt 30) (zi 3))])
  (.cond (zt 31)
  (.seq (.run [zr 32 (.bld [(.string ⟨#[]⟩), (.int .i64 0), (.int .i64 0), (.int .i64 0)] []), ze (.st 4 (zt 2) (zt 32)), za 3 (.const (.bool false))])
  .ret)
  .skip))
  rc37_1)))
def rc37 : RC := (.seq (.run [zf 2 (.al [(.string ⟨#[]⟩), (.int .i64 0), (.int .i64 0), (.int .i64 0)] 30), za 3 (.const (.bool false))])
  (.seq (.seq (.run [zr 15 (.mv (zt 0)), zr 16 (.lenl (zt 15)), zr 17 (.bin .neq (zt 16) (zi 128))])
  (.cond (zt 17)
  (.seq (.run [zr 18 (.bld [(.string ⟨#[]⟩), (.int .i64 0), (.int .i64 0), (.int .i64 0)] []), ze (.st 4 (zt 2) (zt 18)), za 3 (.const (.bool false))])
  .ret)
  .skip))
  rc37_2))
def ce37 : List (Nat × List Nat × List Nat) := []
def ro37 : List RO := [(.ldn 4 (zt 2)), (.mv (zt 3))]
theorem ok37 : okFn Tryz.prog 37 76 ce37 = some (rc37, ro37) := by kernel_rfl
def rc38 : RC := (.seq (.run [zf 1 (.bx 30 (zt 0)), za 2 (.const (.bool false))])
  (.seq (.run [zr 3 (.fa 0 (zt 1)), zr 4 (.ld (zt 3)), zc 5 62 [(zt 4)], zr 6 (.mv (zt 5)), zg 7 6 true (.fa 1 (zt 1)), zg 8 6 true (.ld (zt 7)), zg 9 6 true (.bin .geq (zt 8) (zi 0)), zr 10 (.pick (zt 6) (zt 9) (.const (.bool false))), zr 11 (.mv (zt 10)), zg 12 11 true (.fa 1 (zt 1)), zg 13 11 true (.ld (zt 12)), zg 14 11 true (.bin .leq (zt 13) (zi 8192)), zr 15 (.pick (zt 11) (zt 14) (.const (.bool false))), zr 16 (.mv (zt 15)), zg 17 16 true (.fa 2 (zt 1)), zg 18 16 true (.ld (zt 17)), zg 19 16 true (.bin .geq (zt 18) (zi 0)), zr 20 (.pick (zt 16) (zt 19) (.const (.bool false))), zr 21 (.mv (zt 20)), zg 22 21 true (.fa 2 (zt 1)), zg 23 21 true (.ld (zt 22)), zg 24 21 true (.bin .lss (zt 23) (zi 4294967296)), zr 25 (.pick (zt 21) (zt 24) (.const (.bool false))), zr 26 (.mv (zt 25)), zg 27 26 true (.fa 3 (zt 1)), zg 28 26 true (.ld (zt 27)), zg 29 26 true (.bin .geq (zt 28) (zi 0)), zr 30 (.pick (zt 26) (zt 29) (.const (.bool false))), zr 31 (.mv (zt 30)), zg 32 31 true (.fa 3 (zt 1)), zg 33 31 true (.ld (zt 32)), zg 34 31 true (.bin .lss (zt 33) (zi 65536)), zr 35 (.pick (zt 31) (zt 34) (.const (.bool false))), za 2 (zt 35)])
  .ret))
def ce38 : List (Nat × List Nat × List Nat) := []
def ro38 : List RO := [(.mv (zt 2))]
theorem ok38 : okFn Tryz.prog 38 36 ce38 = some (rc38, ro38) := by kernel_rfl
def rc39_0 : RC := (.seq (.run [za 2 (zi 0)])
  .ret)
def rc39 : RC := (.seq (.run [za 2 (zi 0)])
  (.seq (.run [zf 3 (.al [(.int .i64 0)] 71)])
  (.seq (.seq (.run [zr 4 (.mv (zt 0)), zr 5 (.mki 108 (zt 3)), zc 6 63 [(zt 4), (zt 5)]])
  (.cond (zt 6)
  (.seq (.run [zr 7 (.ld (zt 3)), za 2 (zt 7)])
  .ret)
  .skip))
  rc39_0)))
def ce39 : List (Nat × List Nat × List Nat) := []
def ro39 : List RO := [(.mv (zt 2))]
theorem ok39 : okFn Tryz.prog 39 8 ce39 = some (rc39, ro39) := by kernel_rfl
def rc40_0 : RC := (.seq (.block 1 (.seq (.run [zr 22 (.ia 2 (zt 18) (zt 20)), zr 23 (.ldn 2 (zt 22)), zf 11 (.al [(.int .u8 0), (.slice none 0 0)] 50), ze (.st 2 (zt 11) (zt 23))])
  (.run [zr 24 (.mv (zt 9)), zr 25 (.mv (zt 9)), zr 26 (.nck (zt 25)), zr 27 (.fa 2 (zt 26)), zr 28 (.ld (zt 27)), zr 29 (.fa 0 (zt 11)), zr 30 (.ld (zt 29)), zr 31 (.fa 1 (zt 11)), zr 32 (.ld (zt 31)), ⟨(some 33), none, (.e (.app 5 1 1 (.const (.slice none 0 0)) (zt 32))), [(28, none, .ld (zt 27)), (30, none, .ld (zt 29))]⟩, zr 34 (.bld [(.int .u8 0), (.slice none 0 0)] [(0, 1, (zt 30)), (1, 1, (zt 33))]), ⟨(some 35), none, (.e (.bsl 50 2 1 [(.int .u8 0), (.slice none 0 0)] [(0, 2, (zt 34))])), [(28, none, .ld (zt 27))]⟩, zf 36 (.app 50 2 32 (zt 28) (zt 35)), zr 37 (.nck (zt 24)), zr 38 (.fa 2 (zt 37)), ze (.st 1 (zt 38) (zt 36))])))
  (.run [zr 39 (.bin .add (zt 20) (zi 1)), zr 20 (.mv (zt 39))]))
def rc40_1 : RC := (.seq (.run [zr 21 (.bin .lss (zt 20) (zt 19))])
  (.seq (.cond (zt 21)
  .skip
  (.exit 0))
  rc40_0))
def rc40_2 : RC := (.seq (.run [zr 40 (.mv (zt 9)), zr 41 (.mv (zt 9)), zr 42 (.mv (zt 9)), zr 43 (.nck (zt 42)), zr 44 (.fa 0 (zt 43)), zr 45 (.fa 1 (zt 44)), zr 46 (.ld (zt 45)), zr 47 (.nck (zt 40)), zr 48 (.fa 8 (zt 47)), ze (.st 1 (zt 48) (zt 46)), zr 49 (.nck (zt 41)), zr 50 (.fa 7 (zt 49)), ze (.st 1 (zt 50) (zi 1))])
  (.seq (.run [zr 51 (.mv (zt 9)), za 8 (zt 51)])
  .ret))
def rc40 : RC := (.seq (.run [zf 4 (.bx 23 (zt 0)), za 8 (.const (.pointer none))])
  (.seq (.run [zr 12 (.ldn 2 (zt 4)), zc 13 64 [(zt 12)], zr 14 (.mv (zt 2)), zr 15 (.mv (zt 3)), zr 16 (.bld [(.int .i64 0), (.int .i64 0), (.slice none 0 0), (.bool false), (.bool false), (.int .i64 0), (.int .i64 0), (.int .i64 0), (.int .i64 0), (.bool false), .nilIface] [(0, 2, (zt 13)), (4, 1, (zt 14)), (3, 1, (zt 15))]), zf 17 (.bx 112 (zt 16)), za 9 (zt 17)])
  (.seq (.seq (.run [zr 18 (.mv (zt 1)), zr 19 (.lenl (zt 18)), zr 20 (.mv (zi 0))])
  (.block 0 (.loop rc40_1)))
  rc40_2)))
def ce40 : List (Nat × List Nat × List Nat) := [(5, [0, 1, 2, 3, 4, 5, 6, 7, 8, 9, 10, 11, 12, 13, 14, 15], [0, 0, 2, 6, 14, 0, 32, 0, 128, 384, 992, 2016, 4094, 8191, 16383, 32767])]
def ro40 : List RO := [(.mv (zt 8))]
theorem ok40 : okFn Tryz.prog 40 52 ce40 = some (rc40, ro40) := by kernel_rfl
def rc41 : RC := (.seq (.run [za 0 (.const (.slice none 0 0))])
  (.seq (.run [zf 1 (.mks 5 1 (.int .u8 0) (zi 128) (zi 128)), za 0 (zt 1)])
  .ret))
def ce41 : List (Nat × List Nat × List Nat) := []
def ro41 : List RO := [(.mv (zt 0))]
theorem ok41 : okFn Tryz.prog 41 2 ce41 = some (rc41, ro41) := by kernel_rfl
def rc42 : RC := (.seq (.run [zf 5 (.bx 23 (zt 0)), za 10 (.const (.pointer none))])
  (.seq (.run [zr 13 (.fa 1 (zt 5)), zr 14 (.ld (zt 13)), zr 15 (.mn (zt 14) (zi 99)), zr 16 (.mx (zi 1) (zt 15)), zr 17 (.fa 0 (zt 5)), zr 18 (.ld (zt 17)), zr 19 (.mn (zt 18) (zi 9)), zr 20 (.mx (zi 1) (zt 19)), ⟨(some 11), none, (.a (zt 16)), [(18, none, .ld (zt 17))]⟩, za 12 (zt 20)])
  (.seq (.run [zr 21 (.mv (zt 2)), zr 22 (.mv (zt 11)), zr 23 (.mv (zt 12)), zr 24 (.mv (zt 1)), zr 25 (.mv (zt 3)), zr 26 (.mv (zt 4)), zr 27 (.mx (zi 1) (zt 26)), zr 28 (.bld [(.bool false), (.int .i64 0), (.int .i64 0), (.int .i64 0), (.int .u8 0), (.bool false), (.bool false), (.slice none 0 0), (.slice none 0 0), (.int .i64 0), (.int .i64 0), (.bool false), .nilIface] [(0, 1, (zt 21)), (1, 1, (zt 22)), (2, 1, (zt 23)), (3, 1, (zi 1)), (4, 1, (zt 24)), (6, 1, (zt 25)), (10, 1, (zt 27))]), zf 29 (.bx 114 (zt 28)), za 10 (zt 29)])
  .ret)))
def ce42 : List (Nat × List Nat × List Nat) := [(1, [0, 1, 2, 3, 4, 5, 6, 7, 8, 9], [0, 1, 3, 7, 0, 16, 48, 112, 15, 511])]
def ro42 : List RO := [(.mv (zt 10))]
theorem ok42 : okFn Tryz.prog 42 30 ce42 = some (rc42, ro42) := by kernel_rfl
def rc43 : RC := (.seq (.run [za 2 (.const (.string ⟨#[]⟩))])
  (.seq (.run [zr 3 (.mv (zt 0)), zc 4 65 [(zt 3)], za 2 (zt 4)])
  .ret))
def ce43 : List (Nat × List Nat × List Nat) := []
def ro43 : List RO := [(.mv (zt 2))]
theorem ok43 : okFn Tryz.prog 43 5 ce43 = some (rc43, ro43) := by kernel_rfl
def rc44 : RC := (.seq (.run [za 4 (.const (.string ⟨#[]⟩))])
  (.seq (.run [zr 5 (.mv (zt 0)), zr 6 (.mv (zt 1)), zc 7 66 [(zt 5), (zt 6)], za 4 (zt 7)])
  .ret))
def ce44 : List (Nat × List Nat × List Nat) := []
def ro44 : List RO := [(.mv (zt 4))]
theorem ok44 : okFn Tryz.prog 44 8 ce44 = some (rc44, ro44) := by kernel_rfl
def rc45_0 : RC := (.seq (.block 2 (.seq (.run [zr 43 (.ia 1 (zt 39) (zt 41)), zr 44 (.ld (zt 43)), za 7 (zt 44)])
  (.seq (.seq (.run [zr 45 (.mv (zt 7)), zr 46 (.lens (zt 45)), zr 47 (.mv (zt 5)), zr 48 (.bin .sub (zi 9223372036854775807) (zt 47)), zr 49 (.bin .gtr (zt 46) (zt 48))])
  (.cond (zt 49)
  (.run [zr 50 (.mki 9 (.const (.string ⟨#[115, 116, 114, 105, 110, 103, 115, 58, 32, 74, 111, 105, 110, 32, 111, 117, 116, 112, 117, 116, 32, 108, 101, 110, 103, 116, 104, 32, 111, 118, 101, 114, 102, 108, 111, 119]⟩))), ⟨none, none, .bad, []⟩])
  .skip))
  (.run [zr 51 (.mv (zt 5)), zr 52 (.mv (zt 7)), zr 53 (.lens (zt 52)), zr 54 (.bin .add (zt 51) (zt 53)), za 5 (zt 54)]))))
  (.run [zr 55 (.bin .add (zt 41) (zi 1)), zr 41 (.mv (zt 55))]))
def rc45_1 : RC := (.seq (.run [zr 42 (.bin .lss (zt 41) (zt 40))])
  (.seq (.cond (zt 42)
  .skip
  (.exit 1))
  rc45_0))
def rc45_2 : RC := (.seq (.block 4 (.seq (.run [zr 67 (.ia 1 (zt 63) (zt 65)), zr 68 (.ld (zt 67)), za 10 (zt 68)])
  (.seq (.run [zr 69 (.mv (zt 1)), zc 70 68 [(zt 8), (zt 69)]])
  (.run [zr 71 (.mv (zt 10)), zc 72 68 [(zt 8), (zt 71)]]))))
  (.run [zr 73 (.bin .add (zt 65) (zi 1)), zr 65 (.mv (zt 73))]))
def rc45_3 : RC := (.seq (.run [zr 66 (.bin .lss (zt 65) (zt 64))])
  (.seq (.cond (zt 66)
  .skip
  (.exit 3))
  rc45_2))
def rc45_4 : RC := (.seq (.run [zc 74 69 [(zt 8)], za 4 (zt 74)])
  .ret)
def rc45_5 : RC := (.seq (.run [zf 8 (.al [(.pointer none), (.slice none 0 0)] 117)])
  (.seq (.run [zr 56 (.mv (zt 5)), zc 57 67 [(zt 8), (zt 56)]])
  (.seq (.run [zr 58 (.mv (zt 0)), zr 59 (.ia 1 (zt 58) (zi 0)), zr 60 (.ld (zt 59)), zc 61 68 [(zt 8), (zt 60)]])
  (.seq (.seq (.run [zr 62 (.mv (zt 0)), zr 63 (.sl 1 (zt 62) (some (zi 1)) none), zr 64 (.lenl (zt 63)), zr 65 (.mv (zi 0))])
  (.block 3 (.loop rc45_3)))
  rc45_4))))
def rc45_6 : RC := (.seq (.seq (.run [zr 39 (.mv (zt 0)), zr 40 (.lenl (zt 39)), zr 41 (.mv (zi 0))])
  (.block 1 (.loop rc45_1)))
  rc45_5)
def rc45_7 : RC := (.seq (.run [za 5 (zi 0)])
  (.seq (.seq (.run [zr 20 (.mv (zt 1)), zr 21 (.lens (zt 20)), zr 22 (.bin .gtr (zt 21) (zi 0))])
  (.cond (zt 22)
  (.seq (.seq (.run [zr 23 (.mv (zt 1)), zr 24 (.lens (zt 23)), zr 25 (.mv (zt 0)), zr 26 (.lenl (zt 25)), zr 27 (.bin .sub (zt 26) (zi 1)), zr 28 (.bin .quo (zi 9223372036854775807) (zt 27)), zr 29 (.bin .geq (zt 24) (zt 28))])
  (.cond (zt 29)
  (.run [zr 30 (.mki 9 (.const (.string ⟨#[115, 116, 114, 105, 110, 103, 115, 58, 32, 74, 111, 105, 110, 32, 111, 117, 116, 112, 117, 116, 32, 108, 101, 110, 103, 116, 104, 32, 111, 118, 101, 114, 102, 108, 111, 119]⟩))), ⟨none, none, .bad, []⟩])
  .skip))
  (.run [zr 31 (.mv (zt 5)), zr 32 (.mv (zt 1)), zr 33 (.lens (zt 32)), zr 34 (.mv (zt 0)), zr 35 (.lenl (zt 34)), zr 36 (.bin .sub (zt 35) (zi 1)), zr 37 (.bin .mul (zt 33) (zt 36)), zr 38 (.bin .add (zt 31) (zt 37)), za 5 (zt 38)]))
  .skip))
  rc45_6))
def rc45 : RC := (.seq (.run [za 4 (.const (.string ⟨#[]⟩))])
  (.seq (.seq (.run [zr 11 (.mv (zt 0)), zr 12 (.lenl (zt 11))])
  (.block 0 (.seq (.run [zr 14 (.bin .eql (zt 12) (zi 0)), za 13 (zt 14)])
  (.cond (zt 13)
  (.seq (.run [za 4 (.const (.string ⟨#[]⟩))])
  .ret)
  (.seq (.run [zr 16 (.bin .eql (zt 12) (zi 1)), za 15 (zt 16)])
  (.cond (zt 15)
  (.seq (.run [zr 17 (.mv (zt 0)), zr 18 (.ia 1 (zt 17) (zi 0)), zr 19 (.ld (zt 18)), za 4 (zt 19)])
  .ret)
  .skip))))))
  rc45_7))
def ce45 : List (Nat × List Nat × List Nat) := []
def ro45 : List RO := [(.mv (zt 4))]
theorem ok45 : okFn Tryz.prog 45 75 ce45 = some (rc45, ro45) := by kernel_rfl
def rc46_0 : RC := (.seq (.run [zr 53 (.mv (zt 1)), za 4 (zt 53)])
  .ret)
def rc46 : RC := (.seq (.run [za 4 (.const (.slice none 0 0))])
  (.seq (.run [zr 8 (.mv (zt 0)), zr 9 (.nck (zt 8)), zr 10 (.fa 2 (zt 9)), zr 11 (.ld (zt 10)), zc 12 70 [(zt 11)], zr 7 (.mv (zt 12)), zr 13 (.ext 0 (zt 7)), zr 14 (.ext 1 (zt 7)), za 5 (zt 13), za 6 (zt 14)])
  (.seq (.block 0 (.seq (.run [zr 33 (.mv (zt 5)), zr 34 (.not (zt 33)), za 32 (zt 34)])
  (.cond (zt 32)
  .skip
  (.seq (.run [zr 36 (.mv (zt 6)), zr 37 (.eq true (.iface []) (zt 36) (.const .nilIface)), zr 38 (.mv (zt 37)), zg 39 38 false (.mv (zt 0)), zg 40 38 false (.nck (zt 39)), zg 41 38 false (.fa 3 (zt 40)), zg 42 38 false (.ld (zt 41)), zg 43 38 false (.lenl (zt 42)), zg 44 38 false (.bin .eql (zt 43) (zi 0)), zr 45 (.pick (zt 38) (.const (.bool true)) (zt 44)), za 35 (zt 45)])
  (.cond (zt 35)
  (.run [zr 46 (.mv (zt 0)), zr 47 (.mv (zt 0)), zr 48 (.mv (zt 6)), zr 49 (.nck (zt 46)), zr 50 (.fa 5 (zt 49)), ze (.st 1 (zt 50) (.const (.bool true))), zr 51 (.nck (zt 47)), zr 52 (.fa 4 (zt 51)), ze (.st 1 (zt 52) (zt 48))])
  (.run [zr 15 (.mv (zt 0)), zr 16 (.mv (zt 0)), zr 17 (.mv (zt 0)), zr 18 (.nck (zt 17)), zr 19 (.fa 3 (zt 18)), zr 20 (.ld (zt 19)), zr 21 (.ia 1 (zt 20) (zi 0)), zr 22 (.ld (zt 21)), zr 23 (.mv (zt 0)), zr 24 (.nck (zt 23)), zr 25 (.fa 3 (zt 24)), zr 26 (.ld (zt 25)), zr 27 (.sl 1 (zt 26) (some (zi 1)) none), zr 28 (.nck (zt 15)), zr 29 (.fa 2 (zt 28)), ze (.st 1 (zt 29) (zt 22)), zr 30 (.nck (zt 16)), zr 31 (.fa 3 (zt 30)), ze (.st 1 (zt 31) (zt 27))]))))))
  rc46_0)))
def ce46 : List (Nat × List Nat × List Nat) := [(2, [0, 1, 2, 3, 4, 5, 6, 7, 8, 9, 10, 11, 12, 13, 14, 15, 16, 17, 18], [0, 0, 0, 4, 12, 28, 60, 124, 0, 256, 768, 1792, 3840, 4093, 12285, 28669, 65535, 131071, 262143])]
def ro46 : List RO := [(.mv (zt 4))]
theorem ok46 : okFn Tryz.prog 46 54 ce46 = some (rc46, ro46) := by kernel_rfl
def rc47_0 : RC := (.seq (.run [zr 20 (.mv (zt 0)), zc 21 71 [(zt 20)], za 2 (zt 21)])
  .ret)
def rc47_1 : RC := (.seq (.run [zr 8 (.mv (zt 0)), zr 9 (.nck (zt 8)), zr 10 (.fa 8 (zt 9)), zr 11 (.ld (zt 10)), zr 12 (.bin .sub (zt 11) (zi 1)), zr 13 (.nck (zt 8)), zr 14 (.fa 8 (zt 13)), ze (.st 1 (zt 14) (zt 12))])
  (.seq (.seq (.run [zr 15 (.mv (zt 0)), zr 16 (.nck (zt 15)), zr 17 (.fa 8 (zt 16)), zr 18 (.ld (zt 17)), zr 19 (.bin .gtr (zt 18) (zi 0))])
  (.cond (zt 19)
  (.seq (.run [za 2 (.const (.slice none 0 0))])
  .ret)
  .skip))
  rc47_0))
def rc47 : RC := (.seq (.run [za 2 (.const (.slice none 0 0))])
  (.seq (.seq (.run [zr 3 (.mv (zt 0)), zr 4 (.nck (zt 3)), zr 5 (.fa 5 (zt 4)), zr 6 (.ld (zt 5)), zr 7 (.bin .eql (zt 6) (zi 3))])
  (.cond (zt 7)
  (.seq (.run [za 2 (.const (.slice none 0 0))])
  .ret)
  .skip))
  rc47_1))
def ce47 : List (Nat × List Nat × List Nat) := []
def ro47 : List RO := [(.mv (zt 2))]
theorem ok47 : okFn Tryz.prog 47 22 ce47 = some (rc47, ro47) := by kernel_rfl
def rc48_0 : RC := (.seq (.run [zr 78 (.mv (zt 0)), zc 79 73 [(zt 78)], za 4 (zt 79)])
  .ret)
def rc48_1 : RC := (.seq (.run [za 4 (.const (.slice none 0 0))])
  .ret)
def rc48 : RC := (.seq (.run [za 4 (.const (.slice none 0 0))])
  (.seq (.run [zr 6 (.mv (zt 0)), zr 7 (.nck (zt 6)), zr 8 (.fa 9 (zt 7)), zr 9 (.ld (zt 8)), zr 10 (.mv (zt 9)), zg 11 10 true (.mv (zt 1)), zg 12 10 true (.bin .eql (zt 11) (.const (.int .u8 24))), zr 13 (.pick (zt 10) (zt 12) (.const (.bool false))), za 5 (zt 13)])
  (.seq (.run [zr 14 (.mv (zt 0)), zr 15 (.mv (zt 1)), zr 16 (.bin .eql (zt 15) (.const (.int .u8 24))), zr 17 (.nck (zt 14)), zr 18 (.fa 9 (zt 17)), ze (.st 1 (zt 18) (zt 16))])
  (.seq (.block 0 (.seq (.run [zr 20 (.mv (zt 0)), zr 21 (.nck (zt 20)), zr 22 (.fa 5 (zt 21)), zr 23 (.ld (zt 22)), zr 24 (.bin .eql (zt 23) (zi 3)), za 19 (zt 24)])
  (.cond (zt 19)
  (.seq (.run [za 4 (.const (.slice none 0 0))])
  .ret)
  (.seq (.run [zr 26 (.mv (zt 5)), za 25 (zt 26)])
  (.cond (zt 25)
  (.seq (.run [zr 27 (.mv (zt 0)), zr 28 (.mki 71 (zi 9)), zc 29 72 [(zt 27), (zt 28)], za 4 (zt 29)])
  .ret)
  (.seq (.run [zr 31 (.mv (zt 0)), zr 32 (.nck (zt 31)), zr 33 (.fa 5 (zt 32)), zr 34 (.ld (zt 33)), zr 35 (.bin .eql (zt 34) (zi 0)), zr 36 (.mv (zt 35)), zg 37 36 true (.mv (zt 1)), zg 38 36 true (.bin .eql (zt 37) (.const (.int .u8 21))), zg 39 36 true (.mv (zt 38)), zg 40 39 false (.mv (zt 1)), zg 41 39 false (.bin .eql (zt 40) (.const (.int .u8 67))), zg 42 39 false (.mv (zt 41)), zg 43 42 true (.mv (zt 0)), zg 44 42 true (.nck (zt 43)), zg 45 42 true (.fa 4 (zt 44)), zg 46 42 true (.ld (zt 45)), zg 47 39 false (.pick (zt 42) (zt 46) (.const (.bool false))), zg 48 36 true (.pick (zt 39) (.const (.bool true)) (zt 47)), zr 49 (.pick (zt 36) (zt 48) (.const (.bool false))), za 30 (zt 49)])
  (.cond (zt 30)
  (.seq (.run [zr 50 (.mv (zt 0)), zr 51 (.mv (zt 1)), zr 52 (.bin .eql (zt 51) (.const (.int .u8 67))), zr 53 (.nck (zt 50)), zr 54 (.fa 4 (zt 53)), ze (.st 1 (zt 54) (zt 52))])
  (.seq (.run [zr 55 (.mv (zt 0)), zc 56 73 [(zt 55)], za 4 (zt 56)])
  .ret))
  (.seq (.run [zr 58 (.mv (zt 0)), zr 59 (.nck (zt 58)), zr 60 (.fa 5 (zt 59)), zr 61 (.ld (zt 60)), zr 62 (.bin .eql (zt 61) (zi 0)), za 57 (zt 62)])
  (.cond (zt 57)
  (.seq (.run [za 4 (.const (.slice none 0 0))])
  .ret)
  (.seq (.run [zr 64 (.mv (zt 1)), zr 65 (.bin .eql (zt 64) (.const (.int .u8 6))), za 63 (zt 65)])
  (.cond (zt 63)
  (.seq (.seq (.run [zr 66 (.mv (zt 0)), zr 67 (.nck (zt 66)), zr 68 (.fa 5 (zt 67)), zr 69 (.ld (zt 68)), zr 70 (.bin .eql (zt 69) (zi 1))])
  (.cond (zt 70)
  (.run [zr 71 (.mv (zt 0)), zr 72 (.nck (zt 71)), zr 73 (.fa 6 (zt 72)), zr 74 (.ld (zt 73)), zr 75 (.bin .add (zt 74) (zi 1)), zr 76 (.nck (zt 71)), zr 77 (.fa 6 (zt 76)), ze (.st 1 (zt 77) (zt 75))])
  .skip))
  rc48_0)
  (.seq (.run [zr 81 (.mv (zt 1)), zr 82 (.bin .eql (zt 81) (.const (.int .u8 21))), za 80 (zt 82)])
  (.cond (zt 80)
  (.seq (.run [zr 83 (.mv (zt 0)), zc 84 71 [(zt 83)], za 4 (zt 84)])
  .ret)
  .skip)))))))))))))
  rc48_1))))
def ce48 : List (Nat × List Nat × List Nat) := []
def ro48 : List RO := [(.mv (zt 4))]
theorem ok48 : okFn Tryz.prog 48 85 ce48 = some (rc48, ro48) := by kernel_rfl
def rc51_0 : RC := (.seq (.run [zr 68 (.mv (zt 0)), zr 69 (.ldn 4 (zt 8)), zr 70 (.nck (zt 68)), zr 71 (.fa 4 (zt 70)), ze (.st 4 (zt 71) (zt 69))])
  (.run [zr 72 (.mv (zt 0)), zr 73 (.mv (zt 0)), zr 74 (.nck (zt 73)), zr 75 (.fa 0 (zt 74)), zr 76 (.ldn 2 (zt 75)), zc 77 42 [(zt 76), (.const (.int .u8 1)), (.const (.bool true)), (.const (.bool true)), (zi 1)], zr 78 (.nck (zt 72)), zr 79 (.fa 2 (zt 78)), ze (.st 1 (zt 79) (zt 77))]))
def rc51_1 : RC := (.seq (.run [zr 94 (.mv (zt 0)), zr 95 (.mv (zt 7)), zr 96 (.mv (zt 0)), zr 97 (.nck (zt 96)), zr 98 (.fa 4 (zt 97)), zr 99 (.fa 1 (zt 98)), zr 100 (.ld (zt 99)), zr 101 (.sl 1 (zt 95) none (some (zt 100))), zr 102 (.nck (zt 94)), zr 103 (.fa 8 (zt 102)), ze (.st 1 (zt 103) (zt 101))])
  (.run [zr 104 (.mv (zt 0)), zr 105 (.mv (zt 0)), zr 106 (.nck (zt 105)), zr 107 (.fa 0 (zt 106)), zr 108 (.ldn 2 (zt 107)), zc 109 42 [(zt 108), (.const (.int .u8 0)), (.const (.bool true)), (.const (.bool false)), (zi 1)], zr 110 (.nck (zt 104)), zr 111 (.fa 2 (zt 110)), ze (.st 1 (zt 111) (zt 109))]))
def rc51_2 : RC := (.seq (.run [zr 112 (.mv (zt 1)), za 4 (zt 112)])
  .ret)
def rc51_3 : RC := (.seq (.run [zr 29 (.mv (zt 0)), zr 30 (.nck (zt 29)), zr 31 (.fa 2 (zt 30)), zr 32 (.ld (zt 31)), zc 33 77 [(zt 32)], za 7 (zt 33)])
  (.seq (.run [zr 34 (.mv (zt 0)), zr 35 (.nck (zt 34)), zr 36 (.fa 3 (zt 35)), zr 37 (.ld (zt 36)), zr 38 (.bin .add (zt 37) (zi 1)), zr 39 (.nck (zt 34)), zr 40 (.fa 3 (zt 39)), ze (.st 1 (zt 40) (zt 38))])
  (.seq (.seq (.run [zr 41 (.mv (zt 0)), zr 42 (.nck (zt 41)), zr 43 (.fa 3 (zt 42)), zr 44 (.ld (zt 43))])
  (.block 1 (.seq (.run [zr 56 (.bin .eql (zt 44) (zi 1)), za 55 (zt 56)])
  (.cond (zt 55)
  (.seq (.run [zr 58 (.mv (zt 7)), zc 59 37 [(zt 58)], zr 57 (.mv (zt 59)), zr 60 (.ext 0 (zt 57)), zr 61 (.ext 1 (zt 57)), zf 8 (.al [(.string ⟨#[]⟩), (.int .i64 0), (.int .i64 0), (.int .i64 0)] 30), ze (.st 4 (zt 8) (zt 60)), za 9 (zt 61)])
  (.seq (.seq (.run [zr 62 (.mv (zt 9)), zr 63 (.not (zt 62))])
  (.cond (zt 63)
  (.seq (.run [zr 64 (.mv (zt 0)), zr 65 (.mki 71 (zi 14)), zc 66 76 [(zt 64), (zt 65)]])
  (.seq (.run [zr 67 (.mv (zt 1)), za 4 (zt 67)])
  .ret))
  .skip))
  rc51_0))
  (.seq (.run [zr 81 (.bin .eql (zt 44) (zi 2)), za 80 (zt 81)])
  (.cond (zt 80)
  (.seq (.seq (.run [zr 82 (.mv (zt 7)), zr 83 (.lenl (zt 82)), zr 84 (.mv (zt 0)), zr 85 (.nck (zt 84)), zr 86 (.fa 4 (zt 85)), zr 87 (.fa 1 (zt 86)), zr 88 (.ld (zt 87)), zr 89 (.bin .lss (zt 83) (zt 88))])
  (.cond (zt 89)
  (.seq (.run [zr 90 (.mv (zt 0)), zr 91 (.mki 71 (zi 13)), zc 92 76 [(zt 90), (zt 91)]])
  (.seq (.run [zr 93 (.mv (zt 1)), za 4 (zt 93)])
  .ret))
  .skip))
  rc51_1)
  (.seq (.seq (.run [zr 45 (.mv (zt 7)), zc 46 78 [(zt 45)], zr 47 (.not (zt 46))])
  (.cond (zt 47)
  (.seq (.run [zr 48 (.mv (zt 0)), zr 49 (.mki 71 (zi 14)), zc 50 76 [(zt 48), (zt 49)]])
  (.seq (.run [zr 51 (.mv (zt 1)), za 4 (zt 51)])
  .ret))
  .skip))
  (.run [zr 52 (.mv (zt 0)), zr 53 (.nck (zt 52)), zr 54 (.fa 9 (zt 53)), ze (.st 1 (zt 54) (.const (.bool true)))]))))))))
  rc51_2)))
def rc51 : RC := (.seq (.run [za 4 (.const (.slice none 0 0))])
  (.seq (.run [zr 11 (.mv (zt 0)), zr 12 (.nck (zt 11)), zr 13 (.fa 2 (zt 12)), zr 14 (.ld (zt 13)), zc 15 75 [(zt 14)], zr 10 (.mv (zt 15)), zr 16 (.ext 0 (zt 10)), zr 17 (.ext 1 (zt 10)), za 5 (zt 16), za 6 (zt 17)])
  (.seq (.block 0 (.seq (.run [zr 19 (.mv (zt 5)), zr 20 (.not (zt 19)), za 18 (zt 20)])
  (.cond (zt 18)
  (.seq (.run [zr 21 (.mv (zt 1)), za 4 (zt 21)])
  .ret)
  (.seq (.run [zr 23 (.mv (zt 6)), zr 24 (.eq true (.iface []) (zt 23) (.const .nilIface)), za 22 (zt 24)])
  (.cond (zt 22)
  (.seq (.run [zr 25 (.mv (zt 0)), zr 26 (.mv (zt 6)), zc 27 76 [(zt 25), (zt 26)]])
  (.seq (.run [zr 28 (.mv (zt 1)), za 4 (zt 28)])
  .ret))
  .skip)))))
  rc51_3)))
def ce51 : List (Nat × List Nat × List Nat) := []
def ro51 : List RO := [(.mv (zt 4))]
theorem ok51 : okFn Tryz.prog 51 113 ce51 = some (rc51, ro51) := by kernel_rfl
def rc52_0 : RC := (.seq (.run [zr 57 (.mv (zt 0)), zc 58 80 [(zt 57)], zf 59 (.bsl 5 1 1 [(.int .u8 0)] [(0, 1, (zt 58))]), za 2 (zt 59)])
  .ret)
def rc52_1 : RC := (.seq (.seq (.run [zr 45 (.mv (zt 0)), zr 46 (.nck (zt 45)), zr 47 (.fa 5 (zt 46)), zr 48 (.ld (zt 47)), zr 49 (.not (zt 48))])
  (.cond (zt 49)
  (.run [zr 50 (.mv (zt 0)), zr 51 (.nck (zt 50)), zr 52 (.fa 2 (zt 51)), zr 53 (.ld (zt 52)), zr 54 (.bin .sub (zt 53) (zi 1)), zr 55 (.nck (zt 50)), zr 56 (.fa 2 (zt 55)), ze (.st 1 (zt 56) (zt 54))])
  .skip))
  rc52_0)
def rc52_2 : RC := (.seq (.run [zr 19 (.mv (zt 0)), zr 20 (.mv (zt 0)), zr 21 (.nck (zt 20)), zr 22 (.fa 1 (zt 21)), zr 23 (.ld (zt 22)), zr 24 (.nck (zt 19)), zr 25 (.fa 3 (zt 24)), ze (.st 1 (zt 25) (zt 23))])
  (.seq (.run [zr 26 (.mv (zt 0)), zr 27 (.nck (zt 26)), zr 28 (.fa 7 (zt 27)), ze (.st 1 (zt 28) (.const (.slice none 0 0)))])
  (.seq (.seq (.run [zr 29 (.mv (zt 0)), zr 30 (.nck (zt 29)), zr 31 (.fa 5 (zt 30)), zr 32 (.ld (zt 31)), zr 33 (.not (zt 32)), zr 34 (.mv (zt 33)), zg 35 34 true (.mv (zt 0)), zg 36 34 true (.nck (zt 35)), zg 37 34 true (.fa 2 (zt 36)), zg 38 34 true (.ld (zt 37)), zg 39 34 true (.bin .eql (zt 38) (zi 0)), zr 40 (.pick (zt 34) (zt 39) (.const (.bool false)))])
  (.cond (zt 40)
  (.seq (.run [zr 41 (.mv (zt 0)), zr 42 (.mki 71 (zi 10)), zf 43 (.bsl 5 1 2 [(.int .u8 0), (.int .u8 0)] [(0, 1, (.const (.int .u8 24))), (1, 1, (.const (.int .u8 24)))]), zc 44 79 [(zt 41), (zt 42), (zt 43)], za 2 (zt 44)])
  .ret)
  .skip))
  rc52_1)))
def rc52_3 : RC := (.seq (.run [zr 7 (.mv (zt 0)), zr 8 (.nck (zt 7)), zr 9 (.fa 3 (zt 8)), zr 10 (.ld (zt 9)), zr 11 (.bin .sub (zt 10) (zi 1)), zr 12 (.nck (zt 7)), zr 13 (.fa 3 (zt 12)), ze (.st 1 (zt 13) (zt 11))])
  (.seq (.seq (.run [zr 14 (.mv (zt 0)), zr 15 (.nck (zt 14)), zr 16 (.fa 3 (zt 15)), zr 17 (.ld (zt 16)), zr 18 (.bin .gtr (zt 17) (zi 0))])
  (.cond (zt 18)
  (.seq (.run [za 2 (.const (.slice none 0 0))])
  .ret)
  .skip))
  rc52_2))
def rc52 : RC := (.seq (.run [za 2 (.const (.slice none 0 0))])
  (.seq (.seq (.run [zr 3 (.mv (zt 0)), zr 4 (.nck (zt 3)), zr 5 (.fa 11 (zt 4)), zr 6 (.ld (zt 5))])
  (.cond (zt 6)
  (.seq (.run [za 2 (.const (.slice none 0 0))])
  .ret)
  .skip))
  rc52_3))
def ce52 : List (Nat × List Nat × List Nat) := []
def ro52 : List RO := [(.mv (zt 2))]
theorem ok52 : okFn Tryz.prog 52 60 ce52 = some (rc52, ro52) := by kernel_rfl
def rc55_0 : RC := (.seq (.run [zr 11 (.mv (zt 0)), zc 12 82 [(zt 11)], za 5 (zt 12)])
  (.seq (.run [zr 13 (.mv (zt 5)), zr 14 (.bin .shr (zt 13) (.const (.int .u64 8))), zr 15 (.cvi .u8 (zt 14)), zr 16 (.mv (zt 5)), zr 17 (.cvi .u8 (zt 16)), zf 18 (.bsl 5 1 2 [(.int .u8 0), (.int .u8 0)] [(0, 1, (zt 15)), (1, 1, (zt 17))]), za 4 (zt 18)])
  .ret))
def rc55 : RC := (.seq (.run [za 4 (.const (.slice none 0 0))])
  (.seq (.seq (.run [zr 6 (.mv (zt 1)), zr 7 (.not (zt 6))])
  (.cond (zt 7)
  (.seq (.run [zr 8 (.mv (zt 0)), zc 9 81 [(zt 8)], zf 10 (.bsl 5 1 1 [(.int .u8 0)] [(0, 1, (zt 9))]), za 4 (zt 10)])
  .ret)
  .skip))
  rc55_0))
def ce55 : List (Nat × List Nat × List Nat) := []
def ro55 : List RO := [(.mv (zt 4))]
theorem ok55 : okFn Tryz.prog 55 19 ce55 = some (rc55, ro55) := by kernel_rfl
def rc56_0 : RC := (.run [zc 94 57 [(zt 89), (zt 93)], zr 85 (.mv (zt 94)), zr 95 (.ext 0 (zt 85)), zr 96 (.ext 1 (zt 85)), ⟨(some 6), none, (.e (.al [(.int .u8 0), (.slice none 0 0)] 50)), [(89, none, .ld (zt 88)), (93, none, .ld (zt 92))]⟩, ze (.st 2 (zt 6) (zt 95)), za 7 (zt 96)])
def rc56_1 : RC := (.run [⟨(some 6), none, (.e (.al [(.int .u8 0), (.slice none 0 0)] 50)), [(89, none, .ld (zt 88)), (93, none, .ld (zt 92))]⟩, zc 94 57 [(zt 89), (zt 93)], zr 85 (.mv (zt 94)), zr 95 (.ext 0 (zt 85)), zr 96 (.ext 1 (zt 85)), ze (.st 2 (zt 6) (zt 95)), za 7 (zt 96)])
def rc56_2 : RC := (.seq (.run [zr 106 (.mv (zt 0)), zr 107 (.nck (zt 106)), zr 108 (.fa 7 (zt 107)), ze (.st 1 (zt 108) (.const (.slice none 0 0)))])
  (.seq (.run [zr 109 (.mv (zt 0)), zr 110 (.ldn 2 (zt 6)), zc 111 83 [(zt 109), (zt 110)], za 4 (zt 111)])
  .ret))
def rc56_3 : RC := (.seq (.seq (.run [zr 97 (.mv (zt 7))])
  (.block 1 (.seq (.run [zr 99 (.bin .eql (zt 97) (zi 0)), za 98 (zt 99)])
  (.cond (zt 98)
  (.seq (.run [za 4 (.const (.slice none 0 0))])
  .ret)
  (.seq (.run [zr 101 (.bin .eql (zt 97) (zi 1)), za 100 (zt 101)])
  (.cond (zt 100)
  (.seq (.run [zr 102 (.mv (zt 0)), zr 103 (.nck (zt 102)), zr 104 (.fa 7 (zt 103)), ze (.st 1 (zt 104) (.const (.slice none 0 0)))])
  (.seq (.run [zf 105 (.bsl 5 1 1 [(.int .u8 0)] [(0, 1, (.const (.int .u8 21)))]), za 4 (zt 105)])
  .ret))
  .skip))))))
  rc56_2)
def rc56_4 : RC := (.seq (.sem (.fork [zr 86 (.mv (zt 0)), zr 87 (.nck (zt 86)), zr 88 (.fa 7 (zt 87)), zr 89 (.ld (zt 88)), zr 90 (.mv (zt 0)), zr 91 (.nck (zt 90)), zr 92 (.fa 0 (zt 91)), zr 93 (.ld (zt 92))]
  rc56_0
  rc56_1))
  rc56_3)
def rc56_5 : RC := (.seq (.run [zr 17 (.mv (zt 0)), zr 18 (.mv (zt 0)), zr 19 (.nck (zt 18)), zr 20 (.fa 1 (zt 19)), zr 21 (.ld (zt 20)), zr 22 (.nck (zt 17)), zr 23 (.fa 3 (zt 22)), ze (.st 1 (zt 23) (zt 21))])
  (.seq (.run [zr 24 (.mv (zt 0)), zr 25 (.mv (zt 0)), zr 26 (.nck (zt 25)), zr 27 (.fa 7 (zt 26)), zr 28 (.ld (zt 27)), zr 29 (.mv (zt 1)), zf 30 (.app 5 1 1 (zt 28) (zt 29)), zr 31 (.nck (zt 24)), zr 32 (.fa 7 (zt 31)), ze (.st 1 (zt 32) (zt 30))])
  (.seq (.seq (.run [zr 33 (.mv (zt 0)), zr 34 (.nck (zt 33)), zr 35 (.fa 7 (zt 34)), zr 36 (.ld (zt 35)), zr 37 (.ia 1 (zt 36) (zi 0)), zr 38 (.ld (zt 37)), za 5 (zt 38)])
  (.block 0 (.seq (.run [zr 40 (.mv (zt 5)), zr 41 (.bin .eql (zt 40) (.const (.int .u8 4))), zr 42 (.mv (zt 41)), zg 43 42 true (.mv (zt 0)), zg 44 42 true (.nck (zt 43)), zg 45 42 true (.fa 6 (zt 44)), zg 46 42 true (.ld (zt 45)), zr 47 (.pick (zt 42) (zt 46) (.const (.bool false))), za 39 (zt 47)])
  (.cond (zt 39)
  (.seq (.run [zr 48 (.mv (zt 0)), zf 49 (.bsl 5 1 1 [(.int .u8 0)] [(0, 1, (.const (.int .u8 6)))]), zc 50 79 [(zt 48), (.const .nilIface), (zt 49)], za 4 (zt 50)])
  .ret)
  (.seq (.run [zr 52 (.mv (zt 5)), zr 53 (.bin .eql (zt 52) (.const (.int .u8 24))), zr 54 (.mv (zt 53)), zg 55 54 true (.mv (zt 0)), zg 56 54 true (.nck (zt 55)), zg 57 54 true (.fa 7 (zt 56)), zg 58 54 true (.ld (zt 57)), zg 59 54 true (.lenl (zt 58)), zg 60 54 true (.bin .gtr (zt 59) (zi 1)), zr 61 (.pick (zt 54) (zt 60) (.const (.bool false))), zr 62 (.mv (zt 61)), zg 63 62 true (.mv (zt 0)), zg 64 62 true (.nck (zt 63)), zg 65 62 true (.fa 7 (zt 64)), zg 66 62 true (.ld (zt 65)), zg 67 62 true (.ia 1 (zt 66) (zi 1)), zg 68 62 true (.ld (zt 67)), zg 69 62 true (.bin .eql (zt 68) (.const (.int .u8 24))), zr 70 (.pick (zt 62) (zt 69) (.const (.bool false))), za 51 (zt 70)])
  (.cond (zt 51)
  (.seq (.run [zr 71 (.mv (zt 0)), zr 72 (.mki 71 (zi 9)), zc 73 79 [(zt 71), (zt 72), (.const (.slice none 0 0))], za 4 (zt 73)])
  .ret)
  (.seq (.run [zr 75 (.mv (zt 5)), zr 76 (.bin .eql (zt 75) (.const (.int .u8 24))), zr 77 (.mv (zt 76)), zg 78 77 true (.mv (zt 0)), zg 79 77 true (.nck (zt 78)), zg 80 77 true (.fa 7 (zt 79)), zg 81 77 true (.ld (zt 80)), zg 82 77 true (.lenl (zt 81)), zg 83 77 true (.bin .eql (zt 82) (zi 1)), zr 84 (.pick (zt 77) (zt 83) (.const (.bool false))), za 74 (zt 84)])
  (.cond (zt 74)
  (.seq (.run [za 4 (.const (.slice none 0 0))])
  .ret)
  .skip))))))))
  rc56_4)))
def rc56 : RC := (.seq (.run [za 4 (.const (.slice none 0 0))])
  (.seq (.seq (.run [zr 8 (.mv (zt 0)), zr 9 (.nck (zt 8)), zr 10 (.fa 11 (zt 9)), zr 11 (.ld (zt 10)), zr 12 (.mv (zt 11)), zg 13 12 false (.mv (zt 1)), zg 14 12 false (.lenl (zt 13)), zg 15 12 false (.bin .eql (zt 14) (zi 0)), zr 16 (.pick (zt 12) (.const (.bool true)) (zt 15))])
  (.cond (zt 16)
  (.seq (.run [za 4 (.const (.slice none 0 0))])
  .ret)
  .skip))
  rc56_5))
def ce56 : List (Nat × List Nat × List Nat) := [(12, [0, 1, 2, 3, 4, 5, 6, 7, 1000, 8, 9, 10, 11, 12, 13, 14, 1001, 12, 8, 9, 10, 11, 13, 14], [0, 1, 3, 7, 0, 16, 48, 112, 255, 511, 1023, 1023, 0, 6143, 16383])]
def ro56 : List RO := [(.mv (zt 4))]
theorem ok56 : okFn Tryz.prog 56 112 ce56 = some (rc56, ro56) := by kernel_rfl
def rc57_0 : RC := (.seq (.run [zr 64 (.bld [(.int .u8 0), (.slice none 0 0)] []), ze (.st 2 (zt 4) (zt 64)), za 5 (zi 1)])
  .ret)
def rc57_1 : RC := (.seq (.label 1)
  rc57_0)
def rc57_2 : RC := (.seq (.seq (.run [zr 63 (.bld [(.int .u8 0), (.slice none 0 0)] []), ze (.st 2 (zt 4) (zt 63)), za 5 (zi 0)])
  .ret)
  rc57_1)
def rc57_3 : RC := (.seq (.label 0)
  rc57_2)
def rc57_4 : RC := (.seq (.seq (.run [zr 62 (.ldn 2 (zt 6)), ze (.st 2 (zt 4) (zt 62)), za 5 (zi 2)])
  .ret)
  rc57_3)
def rc57_5 : RC := (.seq (.run [zr 35 (.mv (zt 0)), zr 36 (.ia 1 (zt 35) (zi 1)), zr 37 (.ld (zt 36)), zr 38 (.fa 0 (zt 6)), ze (.st 1 (zt 38) (zt 37))])
  (.seq (.run [zr 39 (.mv (zt 0)), zr 40 (.mv (zt 7)), zr 41 (.mv (zt 1)), zc 42 55 [(.const (.slice none 0 0)), (zt 41)], zr 43 (.lenl (zt 42)), zr 44 (.bin .sub (zt 40) (zt 43)), zr 45 (.sl 1 (zt 39) (some (zi 3)) (some (zt 44))), zf 46 (.app 5 1 1 (.const (.slice none 0 0)) (zt 45)), zr 47 (.fa 1 (zt 6)), ze (.st 1 (zt 47) (zt 46))])
  (.seq (.seq (.run [zr 48 (.fa 1 (zt 6)), zr 49 (.ld (zt 48)), zr 50 (.mv (zt 1)), zr 53 (.mv (zt 0)), zr 54 (.fa 1 (zt 6)), zr 55 (.ld (zt 54)), zr 56 (.lenl (zt 55)), zr 57 (.bin .add (zi 3) (zt 56)), zr 58 (.mv (zt 7)), zr 59 (.sl 1 (zt 53) (some (zt 57)) (some (zt 58))), zr 60 (.b2s (zt 59)), ⟨(some 51), none, (.c (.fn 55 [(zt 49), (zt 50)])), [(55, none, .ld (zt 54)), (60, none, .b2s (zt 59))]⟩, zr 52 (.b2s (zt 51)), zr 61 (.bin .neq (zt 52) (zt 60))])
  (.cond (zt 61)
  (.goto 1)
  .skip))
  rc57_4)))
def rc57_6 : RC := (.seq (.seq (.run [zr 31 (.mv (zt 0)), zr 32 (.lenl (zt 31)), zr 33 (.mv (zt 7)), zr 34 (.bin .lss (zt 32) (zt 33))])
  (.cond (zt 34)
  (.goto 0)
  .skip))
  rc57_5)
def rc57_7 : RC := (.seq (.seq (.run [zr 18 (.mv (zt 0)), zr 19 (.lenl (zt 18)), zr 20 (.bin .gtr (zt 19) (zi 2)), zr 21 (.mv (zt 20)), zg 22 21 true (.mv (zt 0)), zg 23 21 true (.ia 1 (zt 22) (zi 1)), zg 24 21 true (.ld (zt 23)), zg 25 21 true (.mv (zt 0)), zg 26 21 true (.ia 1 (zt 25) (zi 2)), zg 27 21 true (.ld (zt 26)), zg 28 21 true (.com (zt 27)), zg 29 21 true (.bin .neq (zt 24) (zt 28)), zr 30 (.pick (zt 21) (zt 29) (.const (.bool false)))])
  (.cond (zt 30)
  (.goto 1)
  .skip))
  rc57_6)
def rc57_8 : RC := (.seq (.run [zr 11 (.mv (zt 0)), zr 12 (.ia 1 (zt 11) (zi 0)), zr 13 (.ld (zt 12)), zr 14 (.mv (zt 1)), zc 15 84 [(zt 13), (zt 14)], za 7 (zt 15)])
  (.seq (.seq (.run [zr 16 (.mv (zt 7)), zr 17 (.bin .eql (zt 16) (zi 0))])
  (.cond (zt 17)
  (.goto 1)
  .skip))
  rc57_7))
def rc57_9 : RC := (.seq .skip
  rc57_2)
def rc57_10 : RC := (.seq .skip
  rc57_0)
def rc57 : RC := (.seq (.run [zf 4 (.al [(.int .u8 0), (.slice none 0 0)] 50), za 5 (zi 0)])
  (.jumps (.seq (.run [zf 6 (.al [(.int .u8 0), (.slice none 0 0)] 50)])
  (.seq (.run [za 7 (zi 0)])
  (.seq (.seq (.run [zr 8 (.mv (zt 0)), zr 9 (.lenl (zt 8)), zr 10 (.bin .eql (zt 9) (zi 0))])
  (.cond (zt 10)
  (.goto 0)
  .skip))
  rc57_8))) 0 rc57_9 1 rc57_10))
def ce57 : List (Nat × List Nat × List Nat) := [(6, [0, 1, 2, 3, 4, 5, 6, 7, 8, 9, 10, 11, 12], [0, 1, 3, 7, 15, 31, 63, 15, 143, 399, 911, 2047, 4095]), (10, [0, 1, 2, 5, 6, 7, 8, 9, 10, 11, 12, 3, 4, 13], [0, 1, 0, 7, 15, 0, 0, 64, 192, 448, 0, 2016, 4064, 8191])]
def ro57 : List RO := [(.ldn 2 (zt 4)), (.mv (zt 5))]
theorem ok57 : okFn Tryz.prog 57 65 ce57 = some (rc57, ro57) := by kernel_rfl
def rc58 : RC := (.seq (.run [za 4 (.const (.string ⟨#[]⟩)), za 5 (.const (.string ⟨#[]⟩)), za 6 (.const (.bool false))])
  (.seq (.run [zr 7 (.mv (zt 0)), zr 8 (.mv (zt 1)), zc 9 85 [(zt 7), (zt 8)], zr 10 (.ext 0 (zt 9)), zr 11 (.ext 1 (zt 9)), zr 12 (.ext 2 (zt 9)), za 4 (zt 10), za 5 (zt 11), za 6 (zt 12)])
  .ret))
def ce58 : List (Nat × List Nat × List Nat) := []
def ro58 : List RO := [(.mv (zt 4)), (.mv (zt 5)), (.mv (zt 6))]
theorem ok58 : okFn Tryz.prog 58 13 ce58 = some (rc58, ro58) := by kernel_rfl
def rc59 : RC := (.seq (.run [za 4 (.const (.slice none 0 0))])
  (.seq (.run [zr 5 (.mv (zt 0)), zr 6 (.mv (zt 1)), zc 7 86 [(zt 5), (zt 6), (zi 0), (zi (-1))], za 4 (zt 7)])
  .ret))
def ce59 : List (Nat × List Nat × List Nat) := []
def ro59 : List RO := [(.mv (zt 4))]
theorem ok59 : okFn Tryz.prog 59 8 ce59 = some (rc59, ro59) := by kernel_rfl
def rc61 : RC := (.seq (.run [za 6 (zi 0), za 7 (.const (.bool false))])
  (.seq (.run [zr 11 (.mv (zt 0)), zr 12 (.mv (zt 1)), zc 13 91 [(zt 11), (zt 12), (zi 64)], zr 10 (.mv (zt 13)), zr 14 (.ext 0 (zt 10)), zr 15 (.ext 1 (zt 10)), za 8 (zt 14), za 9 (zt 15)])
  (.seq (.run [zr 16 (.mv (zt 8)), zr 17 (.mv (zt 9)), zr 18 (.eq false (.iface []) (zt 17) (.const .nilIface)), zr 19 (.mv (zt 18)), zg 20 19 true (.mv (zt 8)), zg 21 19 true (.bin .geq (zt 20) (zi 0)), zr 22 (.pick (zt 19) (zt 21) (.const (.bool false))), zr 23 (.mv (zt 22)), zg 24 23 true (.mv (zt 8)), zg 25 23 true (.mv (zt 2)), zg 26 23 true (.bin .leq (zt 24) (zt 25)), zr 27 (.pick (zt 23) (zt 26) (.const (.bool false))), zr 28 (.mv (zt 27)), zg 29 28 true (.mv (zt 8)), zg 30 28 true (.mv (zt 1)), ⟨(some 31), (some (28, true)), (.c (.fn 44 [(zt 29), (zt 30)])), []⟩, zg 32 28 true (.mv (zt 0)), zg 33 28 true (.bin .eql (zt 31) (zt 32)), zr 34 (.pick (zt 28) (zt 33) (.const (.bool false))), za 6 (zt 16), za 7 (zt 34)])
  .ret)))
def ce61 : List (Nat × List Nat × List Nat) := []
def ro61 : List RO := [(.mv (zt 6)), (.mv (zt 7))]
theorem ok61 : okFn Tryz.prog 61 35 ce61 = some (rc61, ro61) := by kernel_rfl
def rc62_0 : RC := (.seq (.block 1 (.seq (.run [zr 10 (.mv (zt 8)), za 3 (zt 10)])
  (.seq (.run [zr 11 (.mv (zt 0)), zr 12 (.mv (zt 3)), zr 13 (.ixs (zt 11) (zt 12)), za 4 (zt 13)])
  (.seq (.run [zr 14 (.mv (zt 4)), zr 15 (.bin .geq (zt 14) (.const (.int .u8 97))), zr 16 (.mv (zt 15)), zg 17 16 true (.mv (zt 4)), zg 18 16 true (.bin .leq (zt 17) (.const (.int .u8 122))), zr 19 (.pick (zt 16) (zt 18) (.const (.bool false))), zr 20 (.mv (zt 19)), zg 21 20 false (.mv (zt 4)), zg 22 20 false (.bin .geq (zt 21) (.const (.int .u8 65))), zg 23 20 false (.mv (zt 22)), zg 24 23 true (.mv (zt 4)), zg 25 23 true (.bin .leq (zt 24) (.const (.int .u8 90))), zg 26 20 false (.pick (zt 23) (zt 25) (.const (.bool false))), zr 27 (.pick (zt 20) (.const (.bool true)) (zt 26)), za 5 (zt 27)])
  (.seq (.run [zr 28 (.mv (zt 5)), zr 29 (.not (zt 28)), zr 30 (.mv (zt 29)), zg 31 30 true (.mv (zt 3)), zg 32 30 true (.bin .eql (zt 31) (zi 0)), zg 33 30 true (.mv (zt 32)), zg 34 33 false (.mv (zt 4)), zg 35 33 false (.bin .neq (zt 34) (.const (.int .u8 46))), zg 36 33 false (.mv (zt 35)), zg 37 36 true (.mv (zt 4)), zg 38 36 true (.bin .neq (zt 37) (.const (.int .u8 45))), zg 39 33 false (.pick (zt 36) (zt 38) (.const (.bool false))), zg 40 33 false (.mv (zt 39)), zg 41 40 true (.mv (zt 4)), zg 42 40 true (.bin .neq (zt 41) (.const (.int .u8 95))), zg 43 33 false (.pick (zt 40) (zt 42) (.const (.bool false))), zg 44 33 false (.mv (zt 43)), zg 45 44 true (.mv (zt 4)), zg 46 44 true (.bin .lss (zt 45) (.const (.int .u8 48))), zg 47 44 true (.mv (zt 46)), zg 48 47 false (.mv (zt 4)), zg 49 47 false (.bin .gtr (zt 48) (.const (.int .u8 57))), zg 50 44 true (.pick (zt 47) (.const (.bool true)) (zt 49)), zg 51 33 false (.pick (zt 44) (zt 50) (.const (.bool false))), zg 52 30 true (.pick (zt 33) (.const (.bool true)) (zt 51)), zr 53 (.pick (zt 30) (zt 52) (.const (.bool false)))])
  (.cond (zt 53)
  (.seq (.run [za 2 (.const (.bool false))])
  .ret)
  .skip))))))
  (.run [zr 54 (.bin .add (zt 8) (zi 1)), zr 8 (.mv (zt 54))]))
def rc62_1 : RC := (.seq (.run [zr 9 (.bin .lss (zt 8) (zt 7))])
  (.seq (.cond (zt 9)
  .skip
  (.exit 0))
  rc62_0))
def rc62_2 : RC := (.seq (.run [zr 55 (.mv (zt 0)), zr 56 (.lens (zt 55)), zr 57 (.bin .gtr (zt 56) (zi 0)), zr 58 (.mv (zt 57)), zg 59 58 true (.mv (zt 0)), zg 60 58 true (.lens (zt 59)), zg 61 58 true (.bin .leq (zt 60) (zi 32)), zr 62 (.pick (zt 58) (zt 61) (.const (.bool false))), za 2 (zt 62)])
  .ret)
def rc62 : RC := (.seq (.run [za 2 (.const (.bool false))])
  (.seq (.seq (.run [zr 6 (.mv (zt 0)), zr 7 (.lens (zt 6)), zr 8 (.mv (zi 0))])
  (.block 0 (.loop rc62_1)))
  rc62_2))
def ce62 : List (Nat × List Nat × List Nat) := []
def ro62 : List RO := [(.mv (zt 2))]
theorem ok62 : okFn Tryz.prog 62 63 ce62 = some (rc62, ro62) := by kernel_rfl
def rc63_0 : RC := (.seq (.run [zr 37 (.mv (zt 0)), zr 38 (.mv (zt 1)), zr 39 (.ldn 3 (zt 5)), zr 40 (.mv (zt 7)), zc 41 95 [(zt 37), (zt 38), (zt 39), (zt 40)], za 4 (zt 41)])
  .ret)
def rc63_1 : RC := (.seq (.run [zr 25 (.mv (zt 6)), ⟨(some 26), none, (.c (.inv (zt 25) "Elem" [])), []⟩, za 7 (zt 26)])
  (.seq (.seq (.run [zr 27 (.mv (zt 7)), ⟨(some 28), none, (.c (.inv (zt 27) "Kind" [])), []⟩, zr 29 (.bin .neq (zt 28) (.const (.int .u8 20))), zr 30 (.mv (zt 29)), zg 31 30 true (.mv (zt 7)), zg 32 30 true (.ld (.global 0)), ⟨(some 33), (some (30, true)), (.c (.inv (zt 31) "Implements" [(zt 32)])), []⟩, zg 34 30 true (.not (zt 33)), zr 35 (.pick (zt 30) (zt 34) (.const (.bool false)))])
  (.cond (zt 35)
  (.run [zr 36 (.mki 9 (.const (.string ⟨#[101, 114, 114, 111, 114, 115, 58, 32, 42, 116, 97, 114, 103, 101, 116, 32, 109, 117, 115, 116, 32, 98, 101, 32, 105, 110, 116, 101, 114, 102, 97, 99, 101, 32, 111, 114, 32, 105, 109, 112, 108, 101, 109, 101, 110, 116, 32, 101, 114, 114, 111, 114]⟩))), ⟨none, none, .bad, []⟩])
  .skip))
  rc63_0))
def rc63_2 : RC := (.seq (.run [zr 13 (.mv (zt 1)), zc 14 92 [(zt 13)], zf 5 (.al [(.pointer none), (.pointer none), (.int .u64 0)] 144), ze (.st 3 (zt 5) (zt 14))])
  (.seq (.run [zr 15 (.ldn 3 (zt 5)), zc 16 93 [(zt 15)], za 6 (zt 16)])
  (.seq (.seq (.run [zr 17 (.mv (zt 6)), ⟨(some 18), none, (.c (.inv (zt 17) "Kind" [])), []⟩, zr 19 (.bin .neq (zt 18) (.const (.int .u8 22))), zr 20 (.mv (zt 19)), zg 21 20 false (.ldn 3 (zt 5)), ⟨(some 22), (some (20, false)), (.c (.fn 94 [(zt 21)])), []⟩, zr 23 (.pick (zt 20) (.const (.bool true)) (zt 22))])
  (.cond (zt 23)
  (.run [zr 24 (.mki 9 (.const (.string ⟨#[101, 114, 114, 111, 114, 115, 58, 32, 116, 97, 114, 103, 101, 116, 32, 109, 117, 115, 116, 32, 98, 101, 32, 97, 32, 110, 111, 110, 45, 110, 105, 108, 32, 112, 111, 105, 110, 116, 101, 114]⟩))), ⟨none, none, .bad, []⟩])
  .skip))
  rc63_1)))
def rc63_3 : RC := (.seq (.seq (.run [zr 10 (.mv (zt 1)), zr 11 (.eq false (.iface []) (zt 10) (.const .nilIface))])
  (.cond (zt 11)
  (.run [zr 12 (.mki 9 (.const (.string ⟨#[101, 114, 114, 111, 114, 115, 58, 32, 116, 97, 114, 103, 101, 116, 32, 99, 97, 110, 110, 111, 116, 32, 98, 101, 32, 110, 105, 108]⟩))), ⟨none, none, .bad, []⟩])
  .skip))
  rc63_2)
def rc63 : RC := (.seq (.run [za 4 (.const (.bool false))])
  (.seq (.seq (.run [zr 8 (.mv (zt 0)), zr 9 (.eq false (.iface []) (zt 8) (.const .nilIface))])
  (.cond (zt 9)
  (.seq (.run [za 4 (.const (.bool false))])
  .ret)
  .skip))
  rc63_3))
def ce63 : List (Nat × List Nat × List Nat) := []
def ro63 : List RO := [(.mv (zt 4))]
theorem ok63 : okFn Tryz.prog 63 42 ce63 = some (rc63, ro63) := by kernel_rfl
def rc64 : RC := (.seq (.run [zf 1 (.bx 23 (zt 0)), zf 2 (.al [(.int .i64 0), (.int .i64 0)] 23)])
  (.seq (.run [zr 3 (.fa 0 (zt 1)), zr 4 (.ld (zt 3)), zr 5 (.mn (zt 4) (zi 9)), zr 6 (.mx (zi 1) (zt 5)), zr 7 (.fa 1 (zt 1)), zr 8 (.ld (zt 7)), zr 9 (.mn (zt 8) (zi 99)), zr 10 (.mx (zi 1) (zt 9)), zr 11 (.bld [(.int .i64 0), (.int .i64 0)] [(0, 1, (zt 6)), (1, 1, (zt 10))]), ze (.st 2 (zt 2) (zt 11))])
  .ret))
def ce64 : List (Nat × List Nat × List Nat) := []
def ro64 : List RO := [(.ldn 2 (zt 2))]
theorem ok64 : okFn Tryz.prog 64 12 ce64 = some (rc64, ro64) := by kernel_rfl
def rc65 : RC := (.seq (.run [za 2 (.const (.string ⟨#[]⟩))])
  (.seq (.run [zr 3 (.mv (zt 0)), zc 4 66 [(zt 3), (zi 10)], za 2 (zt 4)])
  .ret))
def ce65 : List (Nat × List Nat × List Nat) := []
def ro65 : List RO := [(.mv (zt 2))]
theorem ok65 : okFn Tryz.prog 65 5 ce65 = some (rc65, ro65) := by kernel_rfl
def rc66_0 : RC := (.seq (.run [zr 40 (.mv (zt 7)), zr 41 (.bin .add (zi 1) (zt 40)), zr 42 (.sla 24 1 (zt 5) (some (zi 1)) (some (zt 41))), zr 43 (.b2s (zt 42)), za 4 (zt 43)])
  .ret)
def rc66_1 : RC := (.seq (.run [zr 26 (.mv (zt 6)), zc 27 97 [(zt 26)], za 7 (zt 27)])
  (.seq (.run [zr 28 (.mv (zt 7)), zr 29 (.bin .add (zi 1) (zt 28)), zr 30 (.sla 24 1 (zt 5) (some (zi 1)) (some (zt 29))), zr 31 (.mv (zt 6)), zc 32 98 [(zt 30), (zt 31)]])
  (.seq (.seq (.run [zr 33 (.mv (zt 0)), zr 34 (.bin .lss (zt 33) (zi 0))])
  (.cond (zt 34)
  (.seq (.run [zr 35 (.iaa 24 1 (zt 5) (zi 0)), ze (.st 1 (zt 35) (.const (.int .u8 45)))])
  (.seq (.run [zr 36 (.mv (zt 7)), zr 37 (.bin .add (zi 1) (zt 36)), zr 38 (.sla 24 1 (zt 5) none (some (zt 37))), zr 39 (.b2s (zt 38)), za 4 (zt 39)])
  .ret))
  .skip))
  rc66_0)))
def rc66_2 : RC := (.seq (.run [zf 5 (.al [(.int .u8 0), (.int .u8 0), (.int .u8 0), (.int .u8 0), (.int .u8 0), (.int .u8 0), (.int .u8 0), (.int .u8 0), (.int .u8 0), (.int .u8 0), (.int .u8 0), (.int .u8 0), (.int .u8 0), (.int .u8 0), (.int .u8 0), (.int .u8 0), (.int .u8 0), (.int .u8 0), (.int .u8 0), (.int .u8 0), (.int .u8 0), (.int .u8 0), (.int .u8 0), (.int .u8 0)] 153)])
  (.seq (.run [zr 20 (.mv (zt 0)), zr 21 (.cvi .u64 (zt 20)), za 6 (zt 21)])
  (.seq (.seq (.run [zr 22 (.mv (zt 0)), zr 23 (.bin .lss (zt 22) (zi 0))])
  (.cond (zt 23)
  (.run [zr 24 (.mv (zt 6)), zr 25 (.neg (zt 24)), za 6 (zt 25)])
  .skip))
  rc66_1)))
def rc66_3 : RC := (.seq (.run [zr 45 (.mv (zt 0)), zr 46 (.cvi .u64 (zt 45)), zr 47 (.mv (zt 1)), zr 48 (.mv (zt 0)), zr 49 (.bin .lss (zt 48) (zi 0)), zc 50 99 [(.const (.slice none 0 0)), (zt 46), (zt 47), (zt 49), (.const (.bool false))], zr 44 (.mv (zt 50)), zr 51 (.ext 0 (zt 44)), zr 52 (.ext 1 (zt 44)), za 8 (zt 51), za 9 (zt 52)])
  (.seq (.run [zr 53 (.mv (zt 9)), za 4 (zt 53)])
  .ret))
def rc66 : RC := (.seq (.run [za 4 (.const (.string ⟨#[]⟩))])
  (.seq (.seq (.run [zr 10 (.mv (zt 1)), zr 11 (.bin .eql (zt 10) (zi 10))])
  (.cond (zt 11)
  (.seq (.seq (.run [zr 12 (.mv (zt 0)), zr 13 (.bin .leq (zi 0) (zt 12)), zr 14 (.mv (zt 13)), zg 15 14 true (.mv (zt 0)), zg 16 14 true (.bin .lss (zt 15) (zi 100)), zr 17 (.pick (zt 14) (zt 16) (.const (.bool false)))])
  (.cond (zt 17)
  (.seq (.run [zr 18 (.mv (zt 0)), zc 19 96 [(zt 18)], za 4 (zt 19)])
  .ret)
  .skip))
  rc66_2)
  .skip))
  rc66_3))
def ce66 : List (Nat × List Nat × List Nat) := []
def ro66 : List RO := [(.mv (zt 4))]
theorem ok66 : okFn Tryz.prog 66 54 ce66 = some (rc66, ro66) := by kernel_rfl
def rc67_0 : RC := (.seq (.run [zr 9 (.mv (zt 0)), zr 10 (.nck (zt 9)), zr 11 (.fa 1 (zt 10)), zr 12 (.ld (zt 11)), zr 13 (.capn (zt 12)), zr 14 (.mv (zt 0)), zr 15 (.nck (zt 14)), zr 16 (.fa 1 (zt 15)), zr 17 (.ld (zt 16)), zr 18 (.lenl (zt 17)), zr 19 (.bin .sub (zt 13) (zt 18)), zr 20 (.mv (zt 1)), zr 21 (.bin .lss (zt 19) (zt 20))])
  (.cond (zt 21)
  (.run [zr 22 (.mv (zt 0)), zr 23 (.mv (zt 1)), zc 24 101 [(zt 22), (zt 23)]])
  .skip))
def rc67 : RC := (.seq (.run [zr 4 (.mv (zt 0)), zc 5 100 [(zt 4)]])
  (.seq (.seq (.run [zr 6 (.mv (zt 1)), zr 7 (.bin .lss (zt 6) (zi 0))])
  (.cond (zt 7)
  (.run [zr 8 (.mki 9 (.const (.string ⟨#[115, 116, 114, 105, 110, 103, 115, 46, 66, 117, 105, 108, 100, 101, 114, 46, 71, 114, 111, 119, 58, 32, 110, 101, 103, 97, 116, 105, 118, 101, 32, 99, 111, 117, 110, 116]⟩))), ⟨none, none, .bad, []⟩])
  .skip))
  rc67_0))
def ce67 : List (Nat × List Nat × List Nat) := [(3, [0, 1, 2, 3, 4, 5, 6, 7, 8, 9, 10, 11, 12], [0, 1, 3, 7, 15, 0, 32, 96, 224, 480, 1023, 0, 4095])]
def ro67 : List RO := []
theorem ok67 : okFn Tryz.prog 67 25 ce67 = some (rc67, ro67) := by kernel_rfl
def rc68 : RC := (.seq (.run [za 4 (zi 0), za 5 (.const .nilIface)])
  (.seq (.run [zr 6 (.mv (zt 0)), zc 7 100 [(zt 6)]])
  (.seq (.run [zr 8 (.mv (zt 0)), zr 9 (.mv (zt 0)), zr 10 (.nck (zt 9)), zr 11 (.fa 1 (zt 10)), zr 12 (.ld (zt 11)), zr 13 (.mv (zt 1)), zf 14 (.app 5 1 1 (zt 12) (zt 13)), zr 15 (.nck (zt 8)), zr 16 (.fa 1 (zt 15)), ze (.st 1 (zt 16) (zt 14))])
  (.seq (.run [zr 17 (.mv (zt 1)), zr 18 (.lens (zt 17)), za 4 (zt 18), za 5 (.const .nilIface)])
  .ret))))
def ce68 : List (Nat × List Nat × List Nat) := []
def ro68 : List RO := [(.mv (zt 4)), (.mv (zt 5))]
theorem ok68 : okFn Tryz.prog 68 19 ce68 = some (rc68, ro68) := by kernel_rfl
def rc69 : RC := (.seq (.run [za 2 (.const (.string ⟨#[]⟩))])
  (.seq (.run [zr 3 (.mv (zt 0)), zr 4 (.nck (zt 3)), zr 5 (.fa 1 (zt 4)), zr 6 (.ld (zt 5)), zr 7 (.usd (zt 6)), zr 8 (.mv (zt 0)), zr 9 (.nck (zt 8)), zr 10 (.fa 1 (zt 9)), zr 11 (.ld (zt 10)), zr 12 (.lenl (zt 11)), zf 13 (.ust 5 (zt 7) (zt 12)), za 2 (zt 13)])
  .ret))
def ce69 : List (Nat × List Nat × List Nat) := [(1, [0, 1, 2, 3, 4, 5, 6, 7, 8, 9, 10, 11], [0, 1, 3, 7, 15, 0, 32, 96, 224, 480, 1023, 2047])]
def ro69 : List RO := [(.mv (zt 2))]
theorem ok69 : okFn Tryz.prog 69 14 ce69 = some (rc69, ro69) := by kernel_rfl
def rc70 : RC := (.seq (.run [za 2 (.const (.bool false)), za 3 (.const .nilIface)])
  (.seq (.run [zr 4 (.mv (zt 0)), zr 5 (.nck (zt 4)), zr 6 (.fa 5 (zt 5)), zr 7 (.ld (zt 6)), zr 8 (.bin .eql (zt 7) (zi 3)), zr 9 (.mv (zt 0)), zr 10 (.nck (zt 9)), zr 11 (.fa 10 (zt 10)), zr 12 (.ld (zt 11)), ⟨(some 2), none, (.a (zt 8)), [(12, none, .ld (zt 11))]⟩, za 3 (zt 12)])
  .ret))
def ce70 : List (Nat × List Nat × List Nat) := [(1, [0, 1, 2, 3, 4, 5, 6, 7, 8, 9, 10], [0, 1, 3, 7, 15, 0, 32, 96, 224, 31, 1023])]
def ro70 : List RO := [(.mv (zt 2)), (.mv (zt 3))]
theorem ok70 : okFn Tryz.prog 70 13 ce70 = some (rc70, ro70) := by kernel_rfl
def rc71_0 : RC := (.seq (.run [zr 16 (.mv (zt 0)), zr 17 (.nck (zt 16)), zr 18 (.fa 7 (zt 17)), zr 19 (.ld (zt 18)), zr 20 (.bin .add (zt 19) (zi 1)), zr 21 (.nck (zt 16)), zr 22 (.fa 7 (zt 21)), ze (.st 1 (zt 22) (zt 20))])
  (.seq (.run [zr 23 (.mv (zt 0)), zr 24 (.mv (zt 0)), zr 25 (.nck (zt 24)), zr 26 (.fa 0 (zt 25)), zr 27 (.fa 1 (zt 26)), zr 28 (.ld (zt 27)), zr 29 (.nck (zt 23)), zr 30 (.fa 8 (zt 29)), ze (.st 1 (zt 30) (zt 28))])
  (.seq (.run [zr 31 (.mv (zt 0)), zc 32 102 [(zt 31)], za 2 (zt 32)])
  .ret)))
def rc71 : RC := (.seq (.run [za 2 (.const (.slice none 0 0))])
  (.seq (.seq (.run [zr 3 (.mv (zt 0)), zr 4 (.nck (zt 3)), zr 5 (.fa 7 (zt 4)), zr 6 (.ld (zt 5)), zr 7 (.mv (zt 0)), zr 8 (.nck (zt 7)), zr 9 (.fa 0 (zt 8)), zr 10 (.fa 0 (zt 9)), zr 11 (.ld (zt 10)), zr 12 (.bin .geq (zt 6) (zt 11))])
  (.cond (zt 12)
  (.seq (.run [zr 13 (.mv (zt 0)), zr 14 (.mki 71 (zi 10)), zc 15 72 [(zt 13), (zt 14)], za 2 (zt 15)])
  .ret)
  .skip))
  rc71_0))
def ce71 : List (Nat × List Nat × List Nat) := [(1, [0, 1, 2, 3, 4, 5, 6, 7, 8, 9], [0, 1, 3, 7, 0, 16, 48, 112, 240, 511])]
def ro71 : List RO := [(.mv (zt 2))]
theorem ok71 : okFn Tryz.prog 71 33 ce71 = some (rc71, ro71) := by kernel_rfl
def rc72_0 : RC := (.seq (.run [za 4 (.const (.slice none 0 0))])
  .ret)
def rc72 : RC := (.seq (.run [za 4 (.const (.slice none 0 0))])
  (.seq (.run [zr 5 (.mv (zt 0)), zr 6 (.mv (zt 0)), zr 7 (.mv (zt 1)), zr 8 (.nck (zt 5)), zr 9 (.fa 5 (zt 8)), ze (.st 1 (zt 9) (zi 3)), zr 10 (.nck (zt 6)), zr 11 (.fa 10 (zt 10)), ze (.st 1 (zt 11) (zt 7))])
  (.seq (.seq (.run [zr 12 (.mv (zt 1)), zr 13 (.mki 71 (zi 10)), zr 14 (.ieq false [2, 3, 5, 6, 12, 21, 25, 26, 71, 97, 110, 128, 142, 149, 154, 192, 223, 225, 226, 238] (zt 12) (zt 13))])
  (.cond (zt 14)
  (.seq (.run [zf 15 (.bsl 5 1 2 [(.int .u8 0), (.int .u8 0)] [(0, 1, (.const (.int .u8 24))), (1, 1, (.const (.int .u8 24)))]), za 4 (zt 15)])
  .ret)
  .skip))
  rc72_0)))
def ce72 : List (Nat × List Nat × List Nat) := []
def ro72 : List RO := [(.mv (zt 4))]
theorem ok72 : okFn Tryz.prog 72 16 ce72 = some (rc72, ro72) := by kernel_rfl
def rc73_0 : RC := (.seq (.run [zr 45 (.mv (zt 0)), zc 46 102 [(zt 45)], za 2 (zt 46)])
  .ret)
def rc73 : RC := (.seq (.run [za 2 (.const (.slice none 0 0))])
  (.seq (.run [zr 3 (.mv (zt 0)), zr 4 (.mv (zt 0)), zr 5 (.mv (zt 0)), zr 6 (.nck (zt 5)), zr 7 (.fa 0 (zt 6)), zr 8 (.fa 1 (zt 7)), zr 9 (.ld (zt 8)), zr 10 (.nck (zt 3)), zr 11 (.fa 7 (zt 10)), ze (.st 1 (zt 11) (zi 1)), zr 12 (.nck (zt 4)), zr 13 (.fa 8 (zt 12)), ze (.st 1 (zt 13) (zt 9))])
  (.seq (.block 0 (.seq (.run [zr 17 (.mv (zt 0)), zr 18 (.nck (zt 17)), zr 19 (.fa 6 (zt 18)), zr 20 (.ld (zt 19)), zr 21 (.mv (zt 0)), zr 22 (.nck (zt 21)), zr 23 (.fa 2 (zt 22)), zr 24 (.ld (zt 23)), zr 25 (.lenl (zt 24)), zr 26 (.bin .lss (zt 20) (zt 25)), za 16 (zt 26)])
  (.cond (zt 16)
  (.run [zr 27 (.mv (zt 0)), zr 28 (.nck (zt 27)), zr 29 (.fa 5 (zt 28)), ze (.st 1 (zt 29) (zi 1))])
  (.seq (.run [zr 31 (.mv (zt 0)), zr 32 (.nck (zt 31)), zr 33 (.fa 3 (zt 32)), zr 34 (.ld (zt 33)), zr 35 (.mv (zt 34)), zg 36 35 true (.mv (zt 0)), zg 37 35 true (.nck (zt 36)), zg 38 35 true (.fa 5 (zt 37)), zg 39 35 true (.ld (zt 38)), zg 40 35 true (.bin .neq (zt 39) (zi 2)), zr 41 (.pick (zt 35) (zt 40) (.const (.bool false))), za 30 (zt 41)])
  (.cond (zt 30)
  (.run [zr 42 (.mv (zt 0)), zr 43 (.nck (zt 42)), zr 44 (.fa 5 (zt 43)), ze (.st 1 (zt 44) (zi 2))])
  (.seq (.run [zr 14 (.mv (zt 0)), zc 15 72 [(zt 14), (.const .nilIface)], za 2 (zt 15)])
  .ret))))))
  rc73_0)))
def ce73 : List (Nat × List Nat × List Nat) := [(3, [0, 1, 2, 3, 4, 5, 6, 7, 8, 9, 10], [0, 1, 3, 7, 0, 16, 48, 112, 240, 511, 1023])]
def ro73 : List RO := [(.mv (zt 2))]
theorem ok73 : okFn Tryz.prog 73 47 ce73 = some (rc73, ro73) := by kernel_rfl
def rc75 : RC := (.seq (.run [za 2 (.const (.bool false)), za 3 (.const .nilIface)])
  (.seq (.run [zr 4 (.mv (zt 0)), zr 5 (.nck (zt 4)), zr 6 (.fa 11 (zt 5)), zr 7 (.ld (zt 6)), zr 8 (.mv (zt 0)), zr 9 (.nck (zt 8)), zr 10 (.fa 12 (zt 9)), zr 11 (.ld (zt 10)), ⟨(some 2), none, (.a (zt 7)), [(11, none, .ld (zt 10))]⟩, za 3 (zt 11)])
  .ret))
def ce75 : List (Nat × List Nat × List Nat) := [(1, [0, 1, 2, 3, 4, 5, 6, 7, 8, 9], [0, 1, 3, 7, 0, 16, 48, 112, 15, 511])]
def ro75 : List RO := [(.mv (zt 2)), (.mv (zt 3))]
theorem ok75 : okFn Tryz.prog 75 12 ce75 = some (rc75, ro75) := by kernel_rfl
def rc76 : RC := (.run [zr 4 (.mv (zt 0)), zr 5 (.mv (zt 0)), zr 6 (.mv (zt 1)), zr 7 (.nck (zt 4)), zr 8 (.fa 9 (zt 7)), ze (.st 1 (zt 8) (.const (.bool true))), zr 9 (.nck (zt 5)), zr 10 (.fa 10 (zt 9)), ze (.st 1 (zt 10) (zt 6))])
def ce76 : List (Nat × List Nat × List Nat) := []
def ro76 : List RO := []
theorem ok76 : okFn Tryz.prog 76 11 ce76 = some (rc76, ro76) := by kernel_rfl
def rc77 : RC := (.seq (.run [za 2 (.const (.slice none 0 0))])
  (.seq (.run [zr 3 (.mv (zt 0)), zr 4 (.nck (zt 3)), zr 5 (.fa 8 (zt 4)), zr 6 (.ld (zt 5)), zf 7 (.app 5 1 1 (.const (.slice none 0 0)) (zt 6)), za 2 (zt 7)])
  .ret))
def ce77 : List (Nat × List Nat × List Nat) := []
def ro77 : List RO := [(.mv (zt 2))]
theorem ok77 : okFn Tryz.prog 77 8 ce77 = some (rc77, ro77) := by kernel_rfl
def rc78 : RC := (.seq (.run [za 2 (.const (.bool false))])
  (.seq (.run [zr 3 (.mv (zt 0)), zr 4 (.lenl (zt 3)), zr 5 (.bin .eql (zt 4) (zi 128)), zr 6 (.mv (zt 5)), zg 7 6 true (.mv (zt 0)), zg 8 6 true (.ia 1 (zt 7) (zi 0)), zg 9 6 true (.ld (zt 8)), zg 10 6 true (.bin .eql (zt 9) (.const (.int .u8 0))), zr 11 (.pick (zt 6) (zt 10) (.const (.bool false))), za 2 (zt 11)])
  .ret))
def ce78 : List (Nat × List Nat × List Nat) := []
def ro78 : List RO := [(.mv (zt 2))]
theorem ok78 : okFn Tryz.prog 78 12 ce78 = some (rc78, ro78) := by kernel_rfl
def rc79 : RC := (.seq (.run [za 6 (.const (.slice none 0 0))])
  (.seq (.run [zr 7 (.mv (zt 0)), zr 8 (.mv (zt 0)), zr 9 (.mv (zt 1)), zr 10 (.nck (zt 7)), zr 11 (.fa 11 (zt 10)), ze (.st 1 (zt 11) (.const (.bool true))), zr 12 (.nck (zt 8)), zr 13 (.fa 12 (zt 12)), ze (.st 1 (zt 13) (zt 9))])
  (.seq (.run [zr 14 (.mv (zt 2)), za 6 (zt 14)])
  .ret)))
def ce79 : List (Nat × List Nat × List Nat) := []
def ro79 : List RO := [(.mv (zt 6))]
theorem ok79 : okFn Tryz.prog 79 15 ce79 = some (rc79, ro79) := by kernel_rfl
def rc80_0 : RC := (.seq (.run [za 2 (.const (.int .u8 21))])
  .ret)
def rc80 : RC := (.seq (.run [za 2 (.const (.int .u8 0))])
  (.seq (.seq (.run [zr 3 (.mv (zt 0)), zr 4 (.nck (zt 3)), zr 5 (.fa 0 (zt 4)), zr 6 (.ld (zt 5)), zr 7 (.mv (zt 6)), zg 8 7 true (.mv (zt 0)), zg 9 7 true (.nck (zt 8)), zg 10 7 true (.fa 5 (zt 9)), zg 11 7 true (.ld (zt 10)), zg 12 7 true (.not (zt 11)), zr 13 (.pick (zt 7) (zt 12) (.const (.bool false)))])
  (.cond (zt 13)
  (.seq (.run [za 2 (.const (.int .u8 67))])
  .ret)
  .skip))
  rc80_0))
def ce80 : List (Nat × List Nat × List Nat) := []
def ro80 : List RO := [(.mv (zt 2))]
theorem ok80 : okFn Tryz.prog 80 14 ce80 = some (rc80, ro80) := by kernel_rfl
def rc81_0 : RC := (.seq (.block 1 (.seq (.run [zr 10 (.ia 1 (zt 6) (zt 8)), zr 11 (.ld (zt 10)), za 5 (zt 11)])
  (.run [zr 12 (.mv (zt 3)), zr 13 (.mv (zt 5)), zr 14 (.bin .add (zt 12) (zt 13)), za 3 (zt 14)])))
  (.run [zr 15 (.bin .add (zt 8) (zi 1)), zr 8 (.mv (zt 15))]))
def rc81_1 : RC := (.seq (.run [zr 9 (.bin .lss (zt 8) (zt 7))])
  (.seq (.cond (zt 9)
  .skip
  (.exit 0))
  rc81_0))
def rc81_2 : RC := (.seq (.run [zr 16 (.mv (zt 3)), za 2 (zt 16)])
  .ret)
def rc81 : RC := (.seq (.run [za 2 (.const (.int .u8 0))])
  (.seq (.run [za 3 (.const (.int .u8 0))])
  (.seq (.seq (.run [zr 6 (.mv (zt 0)), zr 7 (.lenl (zt 6)), zr 8 (.mv (zi 0))])
  (.block 0 (.loop rc81_1)))
  rc81_2)))
def ce81 : List (Nat × List Nat × List Nat) := []
def ro81 : List RO := [(.mv (zt 2))]
theorem ok81 : okFn Tryz.prog 81 17 ce81 = some (rc81, ro81) := by kernel_rfl
def rc82_0 : RC := (.seq (.block 1 (.seq (.run [zr 10 (.ia 1 (zt 6) (zt 8)), zr 11 (.ld (zt 10)), za 5 (zt 11)])
  (.run [zr 12 (.mv (zt 3)), zr 13 (.mv (zt 5)), zr 14 (.cvi .u16 (zt 13)), zr 15 (.bin .shl (zt 14) (.const (.int .u64 8))), zr 16 (.bin .xor (zt 12) (zt 15)), zc 17 103 [(zt 16)], za 3 (zt 17)])))
  (.run [zr 18 (.bin .add (zt 8) (zi 1)), zr 8 (.mv (zt 18))]))
def rc82_1 : RC := (.seq (.run [zr 9 (.bin .lss (zt 8) (zt 7))])
  (.seq (.cond (zt 9)
  .skip
  (.exit 0))
  rc82_0))
def rc82_2 : RC := (.seq (.run [zr 19 (.mv (zt 3)), za 2 (zt 19)])
  .ret)
def rc82 : RC := (.seq (.run [za 2 (.const (.int .u16 0))])
  (.seq (.run [za 3 (.const (.int .u16 0))])
  (.seq (.seq (.run [zr 6 (.mv (zt 0)), zr 7 (.lenl (zt 6)), zr 8 (.mv (zi 0))])
  (.block 0 (.loop rc82_1)))
  rc82_2)))
def ce82 : List (Nat × List Nat × List Nat) := []
def ro82 : List RO := [(.mv (zt 2))]
theorem ok82 : okFn Tryz.prog 82 20 ce82 = some (rc82, ro82) := by kernel_rfl
def rc83_0 : RC := (.seq (.run [zf 79 (.bsl 5 1 1 [(.int .u8 0)] [(0, 1, (.const (.int .u8 6)))]), za 4 (zt 79)])
  .ret)
def rc83_1 : RC := (.seq (.seq (.run [zr 60 (.mv (zt 0)), zr 61 (.nck (zt 60)), zr 62 (.fa 6 (zt 61)), zr 63 (.ld (zt 62)), zr 64 (.not (zt 63)), zr 65 (.mv (zt 64)), zg 66 65 true (.mv (zt 0)), zg 67 65 true (.nck (zt 66)), zg 68 65 true (.fa 9 (zt 67)), zg 69 65 true (.ld (zt 68)), zg 70 65 true (.mv (zt 0)), zg 71 65 true (.nck (zt 70)), zg 72 65 true (.fa 10 (zt 71)), zg 73 65 true (.ld (zt 72)), zg 74 65 true (.bin .eql (zt 69) (zt 73)), zr 75 (.pick (zt 65) (zt 74) (.const (.bool false)))])
  (.cond (zt 75)
  (.seq (.run [zr 76 (.mv (zt 0)), zf 77 (.bsl 5 1 1 [(.int .u8 0)] [(0, 1, (.const (.int .u8 6)))]), zc 78 79 [(zt 76), (.const .nilIface), (zt 77)], za 4 (zt 78)])
  .ret)
  .skip))
  rc83_0)
def rc83 : RC := (.seq (.run [zf 3 (.bx 50 (zt 1)), za 4 (.const (.slice none 0 0))])
  (.seq (.block 0 (.seq (.run [zr 6 (.fa 0 (zt 3)), zr 7 (.ld (zt 6)), zr 8 (.mv (zt 0)), zr 9 (.nck (zt 8)), zr 10 (.fa 4 (zt 9)), zr 11 (.ld (zt 10)), zr 12 (.bin .eql (zt 7) (zt 11)), za 5 (zt 12)])
  (.cond (zt 5)
  (.seq (.run [zr 13 (.mv (zt 0)), zr 14 (.mv (zt 0)), zr 15 (.nck (zt 14)), zr 16 (.fa 8 (zt 15)), zr 17 (.ld (zt 16)), zr 18 (.fa 1 (zt 3)), zr 19 (.ld (zt 18)), zf 20 (.app 5 1 1 (zt 17) (zt 19)), zr 21 (.nck (zt 13)), zr 22 (.fa 8 (zt 21)), ze (.st 1 (zt 22) (zt 20))])
  (.seq (.run [zr 23 (.mv (zt 0)), zr 24 (.nck (zt 23)), zr 25 (.fa 4 (zt 24)), zr 26 (.ld (zt 25)), zr 27 (.bin .add (zt 26) (.const (.int .u8 1))), zr 28 (.nck (zt 23)), zr 29 (.fa 4 (zt 28)), ze (.st 1 (zt 29) (zt 27))])
  (.seq (.run [zr 30 (.mv (zt 0)), zr 31 (.nck (zt 30)), zr 32 (.fa 9 (zt 31)), zr 33 (.ld (zt 32)), zr 34 (.bin .add (zt 33) (zi 1)), zr 35 (.nck (zt 30)), zr 36 (.fa 9 (zt 35)), ze (.st 1 (zt 36) (zt 34))])
  (.run [zr 37 (.mv (zt 0)), zr 38 (.nck (zt 37)), zr 39 (.fa 5 (zt 38)), ze (.st 1 (zt 39) (.const (.bool true)))]))))
  (.seq (.run [zr 41 (.mv (zt 0)), zr 42 (.nck (zt 41)), zr 43 (.fa 5 (zt 42)), zr 44 (.ld (zt 43)), zr 45 (.not (zt 44)), zr 46 (.mv (zt 45)), zg 47 46 false (.fa 0 (zt 3)), zg 48 46 false (.ld (zt 47)), zg 49 46 false (.mv (zt 0)), zg 50 46 false (.nck (zt 49)), zg 51 46 false (.fa 4 (zt 50)), zg 52 46 false (.ld (zt 51)), zg 53 46 false (.bin .sub (zt 52) (.const (.int .u8 1))), zg 54 46 false (.bin .neq (zt 48) (zt 53)), zr 55 (.pick (zt 46) (.const (.bool true)) (zt 54)), za 40 (zt 55)])
  (.cond (zt 40)
  (.seq (.run [zr 56 (.mv (zt 0)), zr 57 (.mki 71 (zi 14)), zf 58 (.bsl 5 1 2 [(.int .u8 0), (.int .u8 0)] [(0, 1, (.const (.int .u8 24))), (1, 1, (.const (.int .u8 24)))]), zc 59 79 [(zt 56), (zt 57), (zt 58)], za 4 (zt 59)])
  .ret)
  .skip)))))
  rc83_1))
def ce83 : List (Nat × List Nat × List Nat) := [(1, [0, 1, 2, 3, 4, 5, 6, 7], [0, 1, 0, 4, 12, 28, 63, 127]), (2, [0, 1, 2, 3, 4, 5, 6, 7, 8, 9, 10], [0, 0, 2, 6, 14, 0, 32, 126, 255, 511, 1023]), (6, [0, 1, 2, 3, 4, 5, 6, 7, 8, 9, 10, 11, 12, 13, 14, 15], [0, 1, 3, 7, 15, 31, 63, 127, 63, 319, 831, 1855, 3903, 8191, 16383, 32767]), (8, [0, 1, 2, 3, 4, 5, 6, 7, 8, 9, 10, 11, 12, 13, 14, 15], [0, 1, 3, 7, 15, 31, 63, 127, 255, 511, 63, 1087, 3135, 7231, 16383, 32767])]
def ro83 : List RO := [(.mv (zt 4))]
theorem ok83 : okFn Tryz.prog 83 80 ce83 = some (rc83, ro83) := by kernel_rfl
def rc84_0 : RC := (.seq (.run [zr 14 (.mv (zt 5)), za 4 (zt 14)])
  .ret)
def rc84_1 : RC := (.seq (.seq (.run [zr 11 (.mv (zt 1))])
  (.cond (zt 11)
  (.run [zr 12 (.mv (zt 5)), zr 13 (.bin .add (zt 12) (zi 1)), za 5 (zt 13)])
  .skip))
  rc84_0)
def rc84 : RC := (.seq (.run [za 4 (zi 0)])
  (.seq (.run [za 5 (zi 0)])
  (.seq (.seq (.run [zr 6 (.mv (zt 0))])
  (.block 0 (.seq (.run [zr 8 (.bin .eql (zt 6) (.const (.int .u8 1))), za 7 (zt 8)])
  (.cond (zt 7)
  (.run [za 5 (zi 132)])
  (.seq (.run [zr 10 (.bin .eql (zt 6) (.const (.int .u8 2))), za 9 (zt 10)])
  (.cond (zt 9)
  (.run [za 5 (zi 1028)])
  (.seq (.run [za 4 (zi 0)])
  .ret)))))))
  rc84_1)))
def ce84 : List (Nat × List Nat × List Nat) := []
def ro84 : List RO := [(.mv (zt 4))]
theorem ok84 : okFn Tryz.prog 84 15 ce84 = some (rc84, ro84) := by kernel_rfl
def rc85_0 : RC := (.seq (.run [zr 22 (.mv (zt 0)), za 4 (zt 22), za 5 (.const (.string ⟨#[]⟩)), za 6 (.const (.bool false))])
  .ret)
def rc85 : RC := (.seq (.run [za 4 (.const (.string ⟨#[]⟩)), za 5 (.const (.string ⟨#[]⟩)), za 6 (.const (.bool false))])
  (.seq (.seq (.run [zr 8 (.mv (zt 0)), zr 9 (.mv (zt 1)), zc 10 104 [(zt 8), (zt 9)], za 7 (zt 10)])
  (.seq (.run [zr 11 (.mv (zt 7)), zr 12 (.bin .geq (zt 11) (zi 0))])
  (.cond (zt 12)
  (.seq (.run [zr 13 (.mv (zt 0)), zr 14 (.mv (zt 7)), zr 15 (.sls (zt 13) none (some (zt 14))), zr 16 (.mv (zt 0)), zr 17 (.mv (zt 7)), zr 18 (.mv (zt 1)), zr 19 (.lens (zt 18)), zr 20 (.bin .add (zt 17) (zt 19)), zr 21 (.sls (zt 16) (some (zt 20)) none), za 4 (zt 15), za 5 (zt 21), za 6 (.const (.bool true))])
  .ret)
  .skip)))
  rc85_0))
def ce85 : List (Nat × List Nat × List Nat) := [(3, [0, 1, 2, 3, 4, 5, 6, 7, 8, 9, 10, 11], [0, 0, 3, 0, 0, 0, 32, 112, 248, 7, 1023, 2047])]
def ro85 : List RO := [(.mv (zt 4)), (.mv (zt 5)), (.mv (zt 6))]
theorem ok85 : okFn Tryz.prog 85 23 ce85 = some (rc85, ro85) := by kernel_rfl
def rc91_0 : RC := (.seq (.run [zr 24 (.mv (zt 8)), za 6 (zt 24), za 7 (.const .nilIface)])
  .ret)
def rc91 : RC := (.seq (.run [za 6 (zi 0), za 7 (.const .nilIface)])
  (.seq (.run [zr 10 (.mv (zt 0)), zr 11 (.mv (zt 1)), zr 12 (.mv (zt 2)), zc 13 111 [(zt 10), (zt 11), (zt 12)], zr 9 (.mv (zt 13)), zr 14 (.ext 0 (zt 9)), zr 15 (.ext 1 (zt 9)), za 8 (zt 14), za 7 (zt 15)])
  (.seq (.seq (.run [zr 16 (.mv (zt 7)), zr 17 (.eq true (.iface []) (zt 16) (.const .nilIface))])
  (.cond (zt 17)
  (.seq (.run [zr 18 (.mv (zt 8)), zr 19 (.mv (zt 0)), zr 20 (.mv (zt 1)), zr 21 (.mv (zt 2)), zr 22 (.mv (zt 7)), zc 23 112 [(.const (.string ⟨#[80, 97, 114, 115, 101, 73, 110, 116]⟩)), (zt 19), (zt 20), (zt 21), (zt 22)], za 6 (zt 18), za 7 (zt 23)])
  .ret)
  .skip))
  rc91_0)))
def ce91 : List (Nat × List Nat × List Nat) := []
def ro91 : List RO := [(.mv (zt 6)), (.mv (zt 7))]
theorem ok91 : okFn Tryz.prog 91 25 ce91 = some (rc91, ro91) := by kernel_rfl
def rc99_0 : RC := (.block 1 (.seq (.run [zr 47 (.mv (zt 13)), zr 48 (.bin .sub (zt 47) (zi 1)), za 13 (zt 48)])
  (.seq (.run [zr 49 (.mv (zt 13)), zr 50 (.mv (zt 1)), zr 51 (.mv (zt 16)), zr 52 (.bin .and (zt 50) (zt 51)), zr 53 (.ixs (.const (.string ⟨#[48, 49, 50, 51, 52, 53, 54, 55, 56, 57, 97, 98, 99, 100, 101, 102, 103, 104, 105, 106, 107, 108, 109, 110, 111, 112, 113, 114, 115, 116, 117, 118, 119, 120, 121, 122]⟩)) (zt 52)), zr 54 (.iaa 65 1 (zt 12) (zt 49)), ze (.st 1 (zt 54) (zt 53))])
  (.run [zr 55 (.mv (zt 1)), zr 56 (.mv (zt 14)), zr 57 (.bin .shr (zt 55) (zt 56)), za 1 (zt 57)]))))
def rc99_1 : RC := (.seq (.seq (.run [zr 44 (.mv (zt 1)), zr 45 (.mv (zt 15)), zr 46 (.bin .geq (zt 44) (zt 45))])
  (.cond (zt 46)
  .skip
  (.exit 0)))
  rc99_0)
def rc99_2 : RC := (.seq (.run [zr 58 (.mv (zt 13)), zr 59 (.bin .sub (zt 58) (zi 1)), za 13 (zt 59)])
  (.run [zr 60 (.mv (zt 13)), zr 61 (.mv (zt 1)), zr 62 (.ixs (.const (.string ⟨#[48, 49, 50, 51, 52, 53, 54, 55, 56, 57, 97, 98, 99, 100, 101, 102, 103, 104, 105, 106, 107, 108, 109, 110, 111, 112, 113, 114, 115, 116, 117, 118, 119, 120, 121, 122]⟩)) (zt 61)), zr 63 (.iaa 65 1 (zt 12) (zt 60)), ze (.st 1 (zt 63) (zt 62))]))
def rc99_3 : RC := (.block 3 (.seq (.run [zr 69 (.mv (zt 13)), zr 70 (.bin .sub (zt 69) (zi 1)), za 13 (zt 70)])
  (.seq (.run [zr 71 (.mv (zt 1)), zr 72 (.mv (zt 17)), zr 73 (.bin .quo (zt 71) (zt 72)), za 18 (zt 73)])
  (.seq (.run [zr 74 (.mv (zt 13)), zr 75 (.mv (zt 1)), zr 76 (.mv (zt 18)), zr 77 (.mv (zt 17)), zr 78 (.bin .mul (zt 76) (zt 77)), zr 79 (.bin .sub (zt 75) (zt 78)), zr 80 (.ixs (.const (.string ⟨#[48, 49, 50, 51, 52, 53, 54, 55, 56, 57, 97, 98, 99, 100, 101, 102, 103, 104, 105, 106, 107, 108, 109, 110, 111, 112, 113, 114, 115, 116, 117, 118, 119, 120, 121, 122]⟩)) (zt 79)), zr 81 (.iaa 65 1 (zt 12) (zt 74)), ze (.st 1 (zt 81) (zt 80))])
  (.run [zr 82 (.mv (zt 18)), za 1 (zt 82)])))))
def rc99_4 : RC := (.seq (.seq (.run [zr 66 (.mv (zt 1)), zr 67 (.mv (zt 17)), zr 68 (.bin .geq (zt 66) (zt 67))])
  (.cond (zt 68)
  .skip
  (.exit 2)))
  rc99_3)
def rc99_5 : RC := (.seq (.run [zr 83 (.mv (zt 13)), zr 84 (.bin .sub (zt 83) (zi 1)), za 13 (zt 84)])
  (.run [zr 85 (.mv (zt 13)), zr 86 (.mv (zt 1)), zr 87 (.ixs (.const (.string ⟨#[48, 49, 50, 51, 52, 53, 54, 55, 56, 57, 97, 98, 99, 100, 101, 102, 103, 104, 105, 106, 107, 108, 109, 110, 111, 112, 113, 114, 115, 116, 117, 118, 119, 120, 121, 122]⟩)) (zt 86)), zr 88 (.iaa 65 1 (zt 12) (zt 85)), ze (.st 1 (zt 88) (zt 87))]))
def rc99_6 : RC := (.seq (.run [zr 99 (.mv (zt 13)), zr 100 (.sla 65 1 (zt 12) (some (zt 99)) none), zr 101 (.b2s (zt 100)), za 11 (zt 101)])
  .ret)
def rc99_7 : RC := (.seq (.seq (.run [zr 94 (.mv (zt 4))])
  (.cond (zt 94)
  (.seq (.run [zr 95 (.mv (zt 0)), zr 96 (.mv (zt 13)), zr 97 (.sla 65 1 (zt 12) (some (zt 96)) none), zf 98 (.app 5 1 1 (zt 95) (zt 97)), za 10 (zt 98)])
  .ret)
  .skip))
  rc99_6)
def rc99_8 : RC := (.seq (.seq (.run [zr 89 (.mv (zt 3))])
  (.cond (zt 89)
  (.seq (.run [zr 90 (.mv (zt 13)), zr 91 (.bin .sub (zt 90) (zi 1)), za 13 (zt 91)])
  (.run [zr 92 (.mv (zt 13)), zr 93 (.iaa 65 1 (zt 12) (zt 92)), ze (.st 1 (zt 93) (.const (.int .u8 45)))]))
  .skip))
  rc99_7)
def rc99_9 : RC := (.seq (.seq (.run [zr 33 (.mv (zt 2)), zc 34 119 [(zt 33)]])
  (.cond (zt 34)
  (.seq (.run [zr 35 (.mv (zt 2)), zr 36 (.cvi .u64 (zt 35)), zc 37 120 [(zt 36)], zr 38 (.cvi .u64 (zt 37)), za 14 (zt 38)])
  (.seq (.run [zr 39 (.mv (zt 2)), zr 40 (.cvi .u64 (zt 39)), za 15 (zt 40)])
  (.seq (.run [zr 41 (.mv (zt 2)), zr 42 (.cvi .u64 (zt 41)), zr 43 (.bin .sub (zt 42) (.const (.int .u64 1))), za 16 (zt 43)])
  (.seq (.block 0 (.loop rc99_1))
  rc99_2))))
  (.seq (.run [zr 64 (.mv (zt 2)), zr 65 (.cvi .u64 (zt 64)), za 17 (zt 65)])
  (.seq (.block 2 (.loop rc99_4))
  rc99_5))))
  rc99_8)
def rc99_10 : RC := (.seq (.run [zf 12 (.al [(.int .u8 0), (.int .u8 0), (.int .u8 0), (.int .u8 0), (.int .u8 0), (.int .u8 0), (.int .u8 0), (.int .u8 0), (.int .u8 0), (.int .u8 0), (.int .u8 0), (.int .u8 0), (.int .u8 0), (.int .u8 0), (.int .u8 0), (.int .u8 0), (.int .u8 0), (.int .u8 0), (.int .u8 0), (.int .u8 0), (.int .u8 0), (.int .u8 0), (.int .u8 0), (.int .u8 0), (.int .u8 0), (.int .u8 0), (.int .u8 0), (.int .u8 0), (.int .u8 0), (.int .u8 0), (.int .u8 0), (.int .u8 0), (.int .u8 0), (.int .u8 0), (.int .u8 0), (.int .u8 0), (.int .u8 0), (.int .u8 0), (.int .u8 0), (.int .u8 0), (.int .u8 0), (.int .u8 0), (.int .u8 0), (.int .u8 0), (.int .u8 0), (.int .u8 0), (.int .u8 0), (.int .u8 0), (.int .u8 0), (.int .u8 0), (.int .u8 0), (.int .u8 0), (.int .u8 0), (.int .u8 0), (.int .u8 0), (.int .u8 0), (.int .u8 0), (.int .u8 0), (.int .u8 0), (.int .u8 0), (.int .u8 0), (.int .u8 0), (.int .u8 0), (.int .u8 0), (.int .u8 0)] 185)])
  (.seq (.run [za 13 (zi 65)])
  (.seq (.seq (.run [zr 30 (.mv (zt 3))])
  (.cond (zt 30)
  (.run [zr 31 (.mv (zt 1)), zr 32 (.neg (zt 31)), za 1 (zt 32)])
  .skip))
  rc99_9)))
def rc99 : RC := (.seq (.run [za 10 (.const (.slice none 0 0)), za 11 (.const (.string ⟨#[]⟩))])
  (.seq (.seq (.run [zr 19 (.mv (zt 2)), zr 20 (.bin .lss (zt 19) (zi 2)), zr 21 (.mv (zt 20)), zg 22 21 false (.mv (zt 2)), zg 23 21 false (.bin .eql (zt 22) (zi 10)), zr 24 (.pick (zt 21) (.const (.bool true)) (zt 23)), zr 25 (.mv (zt 24)), zg 26 25 false (.mv (zt 2)), zg 27 25 false (.bin .gtr (zt 26) (zi 36)), zr 28 (.pick (zt 25) (.const (.bool true)) (zt 27))])
  (.cond (zt 28)
  (.run [zr 29 (.mki 9 (.const (.string ⟨#[115, 116, 114, 99, 111, 110, 118, 58, 32, 105, 108, 108, 101, 103, 97, 108, 32, 65, 112, 112, 101, 110, 100, 73, 110, 116, 47, 70, 111, 114, 109, 97, 116, 73, 110, 116, 32, 98, 97, 115, 101]⟩))), ⟨none, none, .bad, []⟩])
  .skip))
  rc99_10))
def ce99 : List (Nat × List Nat × List Nat) := []
def ro99 : List RO := [(.mv (zt 10)), (.mv (zt 11))]
theorem ok99 : okFn Tryz.prog 99 102 ce99 = some (rc99, ro99) := by kernel_rfl
def rc100 : RC := (.seq (.run [zr 2 (.mv (zt 0)), zr 3 (.nck (zt 2)), zr 4 (.fa 0 (zt 3)), zr 5 (.ld (zt 4)), zr 6 (.eq false .ptr (zt 5) (.const (.pointer none)))])
  (.cond (zt 6)
  (.run [zr 7 (.mv (zt 0)), zr 8 (.mv (zt 0)), zr 9 (.cvp (zt 8)), zc 10 121 [(zt 9)], zr 11 (.cvu 117 2 (zt 10)), zr 12 (.nck (zt 7)), zr 13 (.fa 0 (zt 12)), ze (.st 1 (zt 13) (zt 11))])
  (.seq (.run [zr 14 (.mv (zt 0)), zr 15 (.nck (zt 14)), zr 16 (.fa 0 (zt 15)), zr 17 (.ld (zt 16)), zr 18 (.mv (zt 0)), zr 19 (.eq true .ptr (zt 17) (zt 18))])
  (.cond (zt 19)
  .stop
  .skip))))
def ce100 : List (Nat × List Nat × List Nat) := []
def ro100 : List RO := []
theorem ok100 : okFn Tryz.prog 100 20 ce100 = some (rc100, ro100) := by kernel_rfl
def rc101 : RC := (.seq (.run [zr 5 (.mv (zt 0)), zr 6 (.nck (zt 5)), zr 7 (.fa 1 (zt 6)), zr 8 (.ld (zt 7)), zr 9 (.capn (zt 8)), zr 10 (.bin .mul (zi 2) (zt 9)), zr 11 (.mv (zt 1)), zr 12 (.bin .add (zt 10) (zt 11)), zr 14 (.mv (zt 0)), zr 15 (.nck (zt 14)), zr 16 (.fa 1 (zt 15)), zr 17 (.ld (zt 16)), zr 18 (.lenl (zt 17)), ⟨(some 13), none, (.c (.fn 122 [(zt 12)])), [(17, none, .ld (zt 16))]⟩, zr 19 (.sl 1 (zt 13) none (some (zt 18))), za 4 (zt 19)])
  (.seq (.run [zr 20 (.mv (zt 4)), zr 21 (.mv (zt 0)), zr 22 (.nck (zt 21)), zr 23 (.fa 1 (zt 22)), zr 24 (.ld (zt 23)), zf 25 (.cpy 1 (zt 20) (zt 24))])
  (.run [zr 26 (.mv (zt 0)), zr 27 (.mv (zt 4)), zr 28 (.nck (zt 26)), zr 29 (.fa 1 (zt 28)), ze (.st 1 (zt 29) (zt 27))])))
def ce101 : List (Nat × List Nat × List Nat) := [(0, [0, 1, 2, 3, 4, 5, 6, 7, 9, 10, 11, 12, 13, 8, 14, 15], [0, 1, 3, 7, 15, 31, 0, 127, 255, 0, 512, 1536, 3584, 7680, 16383, 32767])]
def ro101 : List RO := []
theorem ok101 : okFn Tryz.prog 101 30 ce101 = some (rc101, ro101) := by kernel_rfl
def rc102_0 : RC := (.seq (.run [zr 34 (.mv (zt 3)), za 2 (zt 34)])
  .ret)
def rc102_1 : RC := (.seq (.run [za 2 (.const (.slice none 0 0))])
  .ret)
def rc102 : RC := (.seq (.run [za 2 (.const (.slice none 0 0))])
  (.seq (.seq (.run [zr 5 (.mv (zt 0)), zr 6 (.nck (zt 5)), zr 7 (.fa 5 (zt 6)), zr 8 (.ld (zt 7))])
  (.block 0 (.seq (.run [zr 10 (.bin .eql (zt 8) (zi 1)), za 9 (zt 10)])
  (.cond (zt 9)
  (.seq (.run [zr 12 (.mv (zt 0)), zr 13 (.nck (zt 12)), zr 14 (.fa 2 (zt 13)), zr 15 (.ld (zt 14)), zr 16 (.mv (zt 0)), zr 17 (.nck (zt 16)), zr 18 (.fa 6 (zt 17)), zr 19 (.ld (zt 18)), zr 20 (.ia 2 (zt 15) (zt 19)), zr 21 (.ldn 2 (zt 20)), zr 22 (.mv (zt 0)), zr 23 (.nck (zt 22)), zr 24 (.fa 4 (zt 23)), zr 25 (.ld (zt 24)), zc 26 32 [(zt 21), (zt 25)], zr 11 (.mv (zt 26)), zr 27 (.ext 0 (zt 11)), zr 28 (.ext 1 (zt 11)), za 3 (zt 27), za 4 (zt 28)])
  (.seq (.seq (.run [zr 29 (.mv (zt 4)), zr 30 (.not (zt 29))])
  (.cond (zt 30)
  (.seq (.run [zr 31 (.mv (zt 0)), zr 32 (.mki 71 (zi 14)), zc 33 72 [(zt 31), (zt 32)], za 2 (zt 33)])
  .ret)
  .skip))
  rc102_0))
  (.seq (.run [zr 36 (.bin .eql (zt 8) (zi 2)), za 35 (zt 36)])
  (.cond (zt 35)
  (.seq (.run [zf 37 (.bsl 5 1 1 [(.int .u8 0)] [(0, 1, (.const (.int .u8 4)))]), za 2 (zt 37)])
  .ret)
  .skip))))))
  rc102_1))
def ce102 : List (Nat × List Nat × List Nat) := [(3, [0, 1, 2, 3, 4, 5, 6, 7, 8, 9, 10, 11, 12, 13, 14, 15, 16, 17, 18, 19], [0, 1, 3, 7, 0, 16, 48, 112, 255, 511, 0, 1024, 3072, 7168, 16383, 32767, 65535, 65535, 131071, 524287])]
def ro102 : List RO := [(.mv (zt 2))]
theorem ok102 : okFn Tryz.prog 102 38 ce102 = some (rc102, ro102) := by kernel_rfl
def rc103_0 : RC := (.seq (.block 1 (.seq (.run [zr 6 (.mv (zt 0)), zr 7 (.bin .and (zt 6) (.const (.int .u16 32768))), zr 8 (.bin .neq (zt 7) (.const (.int .u16 0))), za 3 (zt 8)])
  (.seq (.run [zr 9 (.mv (zt 0)), zr 10 (.bin .shl (zt 9) (.const (.int .u64 1))), za 0 (zt 10)])
  (.seq (.run [zr 11 (.mv (zt 3))])
  (.cond (zt 11)
  (.run [zr 12 (.mv (zt 0)), zr 13 (.bin .xor (zt 12) (.const (.int .u16 4129))), za 0 (zt 13)])
  .skip)))))
  (.run [zr 14 (.bin .add (zt 4) (zi 1)), zr 4 (.mv (zt 14))]))
def rc103_1 : RC := (.seq (.run [zr 5 (.bin .lss (zt 4) (zi 8))])
  (.seq (.cond (zt 5)
  .skip
  (.exit 0))
  rc103_0))
def rc103_2 : RC := (.seq (.run [zr 15 (.mv (zt 0)), za 2 (zt 15)])
  .ret)
def rc103 : RC := (.seq (.run [za 2 (.const (.int .u16 0))])
  (.seq (.seq (.run [zr 4 (.mv (zi 0))])
  (.block 0 (.loop rc103_1)))
  rc103_2))
def ce103 : List (Nat × List Nat × List Nat) := []
def ro103 : List RO := [(.mv (zt 2))]
theorem ok103 : okFn Tryz.prog 103 16 ce103 = some (rc103, ro103) := by kernel_rfl
def rc111_0 : RC := (.seq (.run [zr 72 (.mv (zt 11)), za 6 (zt 72), za 7 (.const .nilIface)])
  .ret)
def rc111_1 : RC := (.seq (.run [zr 67 (.mv (zt 9)), zr 68 (.cvi .i64 (zt 67)), za 11 (zt 68)])
  (.seq (.seq (.run [zr 69 (.mv (zt 8))])
  (.cond (zt 69)
  (.run [zr 70 (.mv (zt 11)), zr 71 (.neg (zt 70)), za 11 (zt 71)])
  .skip))
  rc111_0))
def rc111_2 : RC := (.seq (.seq (.run [zr 57 (.mv (zt 8)), zr 58 (.mv (zt 57)), zg 59 58 true (.mv (zt 9)), zg 60 58 true (.mv (zt 10)), zg 61 58 true (.bin .gtr (zt 59) (zt 60)), zr 62 (.pick (zt 58) (zt 61) (.const (.bool false)))])
  (.cond (zt 62)
  (.seq (.run [zr 63 (.mv (zt 10)), zr 64 (.cvi .i64 (zt 63)), zr 65 (.neg (zt 64)), zr 66 (.mki 192 (zi 1)), za 6 (zt 65), za 7 (zt 66)])
  .ret)
  .skip))
  rc111_1)
def rc111_3 : RC := (.seq (.run [zr 42 (.mv (zt 2)), zr 43 (.bin .sub (zt 42) (zi 1)), zr 44 (.cvi .u64 (zt 43)), zr 45 (.bin .shl (.const (.int .u64 1)) (zt 44)), za 10 (zt 45)])
  (.seq (.seq (.run [zr 46 (.mv (zt 8)), zr 47 (.not (zt 46)), zr 48 (.mv (zt 47)), zg 49 48 true (.mv (zt 9)), zg 50 48 true (.mv (zt 10)), zg 51 48 true (.bin .geq (zt 49) (zt 50)), zr 52 (.pick (zt 48) (zt 51) (.const (.bool false)))])
  (.cond (zt 52)
  (.seq (.run [zr 53 (.mv (zt 10)), zr 54 (.bin .sub (zt 53) (.const (.int .u64 1))), zr 55 (.cvi .i64 (zt 54)), zr 56 (.mki 192 (zi 1)), za 6 (zt 55), za 7 (zt 56)])
  .ret)
  .skip))
  rc111_2))
def rc111_4 : RC := (.seq (.seq (.run [zr 40 (.mv (zt 2)), zr 41 (.bin .eql (zt 40) (zi 0))])
  (.cond (zt 41)
  (.run [za 2 (zi 64)])
  .skip))
  rc111_3)
def rc111_5 : RC := (.seq (.run [za 9 (.const (.int .u64 0))])
  (.seq (.run [zr 26 (.mv (zt 0)), zr 27 (.mv (zt 1)), zr 28 (.mv (zt 2)), zc 29 132 [(zt 26), (zt 27), (zt 28)], zr 25 (.mv (zt 29)), zr 30 (.ext 0 (zt 25)), zr 31 (.ext 1 (zt 25)), za 9 (zt 30), za 7 (zt 31)])
  (.seq (.seq (.run [zr 32 (.mv (zt 7)), zr 33 (.eq true (.iface []) (zt 32) (.const .nilIface)), zr 34 (.mv (zt 33)), zg 35 34 true (.mv (zt 7)), zg 36 34 true (.mki 192 (zi 1)), zg 37 34 true (.ieq true [2, 3, 5, 6, 12, 21, 25, 26, 71, 97, 110, 128, 142, 149, 154, 192, 223, 225, 226, 238] (zt 35) (zt 36)), zr 38 (.pick (zt 34) (zt 37) (.const (.bool false)))])
  (.cond (zt 38)
  (.seq (.run [zr 39 (.mv (zt 7)), za 6 (zi 0), za 7 (zt 39)])
  .ret)
  .skip))
  rc111_4)))
def rc111_6 : RC := (.seq (.run [za 8 (.const (.bool false))])
  (.seq (.seq (.run [zr 15 (.mv (zt 0)), zr 16 (.ixs (zt 15) (zi 0))])
  (.block 0 (.seq (.run [zr 18 (.bin .eql (zt 16) (.const (.int .u8 43))), za 17 (zt 18)])
  (.cond (zt 17)
  (.run [zr 19 (.mv (zt 0)), zr 20 (.sls (zt 19) (some (zi 1)) none), za 0 (zt 20)])
  (.seq (.run [zr 22 (.bin .eql (zt 16) (.const (.int .u8 45))), za 21 (zt 22)])
  (.cond (zt 21)
  (.seq (.run [zr 23 (.mv (zt 0)), zr 24 (.sls (zt 23) (some (zi 1)) none), za 0 (zt 24)])
  (.run [za 8 (.const (.bool true))]))
  .skip))))))
  rc111_5))
def rc111 : RC := (.seq (.run [za 6 (zi 0), za 7 (.const .nilIface)])
  (.seq (.seq (.run [zr 12 (.mv (zt 0)), zr 13 (.bin .eql (zt 12) (.const (.string ⟨#[]⟩)))])
  (.cond (zt 13)
  (.seq (.run [zr 14 (.mki 192 (zi 2)), za 6 (zi 0), za 7 (zt 14)])
  .ret)
  .skip))
  rc111_6))
def ce111 : List (Nat × List Nat × List Nat) := []
def ro111 : List RO := [(.mv (zt 6)), (.mv (zt 7))]
theorem ok111 : okFn Tryz.prog 111 73 ce111 = some (rc111, ro111) := by kernel_rfl
def rc119 : RC := (.seq (.run [za 2 (.const (.bool false))])
  (.seq (.run [zr 3 (.mv (zt 0)), zr 4 (.mv (zt 0)), zr 5 (.bin .sub (zt 4) (zi 1)), zr 6 (.bin .and (zt 3) (zt 5)), zr 7 (.bin .eql (zt 6) (zi 0)), za 2 (zt 7)])
  .ret))
def ce119 : List (Nat × List Nat × List Nat) := []
def ro119 : List RO := [(.mv (zt 2))]
theorem ok119 : okFn Tryz.prog 119 8 ce119 = some (rc119, ro119) := by kernel_rfl
def rc120_0 : RC := (.seq (.run [zr 6 (.mv (zt 0)), zc 7 138 [(zt 6)], za 2 (zt 7)])
  .ret)
def rc120 : RC := (.seq (.run [za 2 (zi 0)])
  (.seq (.cond (.const (.bool false))
  (.seq (.run [zr 3 (.mv (zt 0)), zr 4 (.cvi .u32 (zt 3)), zc 5 137 [(zt 4)], za 2 (zt 5)])
  .ret)
  .skip)
  rc120_0))
def ce120 : List (Nat × List Nat × List Nat) := []
def ro120 : List RO := [(.mv (zt 2))]
theorem ok120 : okFn Tryz.prog 120 8 ce120 = some (rc120, ro120) := by kernel_rfl
end Go.Proofs.YthmhappejchilaaGreatDoor.Ab

set_option maxHeartbeats 4000000
namespace Go.Proofs.YthmhappejchilaaGreatDoor.Ab
open Go Go.RowKit
def rc132_0 : RC := (.seq (.run [zr 144 (.mv (zt 13)), zr 145 (.mv (zt 1)), zr 146 (.cvi .u64 (zt 145)), zr 147 (.bin .mul (zt 144) (zt 146)), za 13 (zt 147)])
  (.seq (.run [zr 148 (.mv (zt 13)), zr 149 (.mv (zt 16)), zr 150 (.cvi .u64 (zt 149)), zr 151 (.bin .add (zt 148) (zt 150)), za 17 (zt 151)])
  (.seq (.seq (.run [zr 152 (.mv (zt 17)), zr 153 (.mv (zt 13)), zr 154 (.bin .lss (zt 152) (zt 153)), zr 155 (.mv (zt 154)), zg 156 155 false (.mv (zt 17)), zg 157 155 false (.mv (zt 11)), zg 158 155 false (.bin .gtr (zt 156) (zt 157)), zr 159 (.pick (zt 155) (.const (.bool true)) (zt 158))])
  (.cond (zt 159)
  (.seq (.run [zr 160 (.mv (zt 11)), zr 161 (.mki 192 (zi 1)), za 6 (zt 160), za 7 (zt 161)])
  .ret)
  .skip))
  (.run [zr 162 (.mv (zt 17)), za 13 (zt 162)]))))
def rc132_1 : RC := (.seq (.seq (.run [zr 139 (.mv (zt 13)), zr 140 (.mv (zt 10)), zr 141 (.bin .geq (zt 139) (zt 140))])
  (.cond (zt 141)
  (.seq (.run [zr 142 (.mv (zt 11)), zr 143 (.mki 192 (zi 1)), za 6 (zt 142), za 7 (zt 143)])
  .ret)
  .skip))
  rc132_0)
def rc132_2 : RC := (.seq (.seq (.run [zr 134 (.mv (zt 16)), zr 135 (.mv (zt 1)), zr 136 (.cvi .u8 (zt 135)), zr 137 (.bin .geq (zt 134) (zt 136))])
  (.cond (zt 137)
  (.seq (.run [zr 138 (.mki 192 (zi 2)), za 6 (.const (.int .u64 0)), za 7 (zt 138)])
  .ret)
  .skip))
  rc132_1)
def rc132_3 : RC := (.seq (.block 4 (.seq (.run [zr 103 (.ia 1 (zt 99) (zt 101)), zr 104 (.ld (zt 103)), za 15 (zt 104)])
  (.seq (.run [za 16 (.const (.int .u8 0))])
  (.seq (.block 5 (.seq (.run [zr 107 (.mv (zt 15)), zr 108 (.bin .eql (zt 107) (.const (.int .u8 95))), zr 109 (.mv (zt 108)), zg 110 109 true (.mv (zt 8)), zr 111 (.pick (zt 109) (zt 110) (.const (.bool false))), za 106 (zt 111)])
  (.cond (zt 106)
  (.seq (.run [za 12 (.const (.bool true))])
  (.exit 4))
  (.seq (.run [zr 113 (.mv (zt 15)), zr 114 (.bin .leq (.const (.int .u8 48)) (zt 113)), zr 115 (.mv (zt 114)), zg 116 115 true (.mv (zt 15)), zg 117 115 true (.bin .leq (zt 116) (.const (.int .u8 57))), zr 118 (.pick (zt 115) (zt 117) (.const (.bool false))), za 112 (zt 118)])
  (.cond (zt 112)
  (.run [zr 119 (.mv (zt 15)), zr 120 (.bin .sub (zt 119) (.const (.int .u8 48))), za 16 (zt 120)])
  (.seq (.run [zr 122 (.mv (zt 15)), zc 123 144 [(zt 122)], zr 124 (.bin .leq (.const (.int .u8 97)) (zt 123)), zr 125 (.mv (zt 124)), zg 126 125 true (.mv (zt 15)), ⟨(some 127), (some (125, true)), (.c (.fn 144 [(zt 126)])), []⟩, zg 128 125 true (.bin .leq (zt 127) (.const (.int .u8 122))), zr 129 (.pick (zt 125) (zt 128) (.const (.bool false))), za 121 (zt 129)])
  (.cond (zt 121)
  (.run [zr 130 (.mv (zt 15)), zc 131 144 [(zt 130)], zr 132 (.bin .sub (zt 131) (.const (.int .u8 97))), zr 133 (.bin .add (zt 132) (.const (.int .u8 10))), za 16 (zt 133)])
  (.seq (.run [zr 105 (.mki 192 (zi 2)), za 6 (.const (.int .u64 0)), za 7 (zt 105)])
  .ret))))))))
  rc132_2))))
  (.run [zr 163 (.bin .add (zt 101) (zi 1)), zr 101 (.mv (zt 163))]))
def rc132_4 : RC := (.seq (.run [zr 102 (.bin .lss (zt 101) (zt 100))])
  (.seq (.cond (zt 102)
  .skip
  (.exit 3))
  rc132_3))
def rc132_5 : RC := (.seq (.run [zr 171 (.mv (zt 13)), za 6 (zt 171), za 7 (.const .nilIface)])
  .ret)
def rc132_6 : RC := (.seq (.seq (.run [zr 164 (.mv (zt 12)), zr 165 (.mv (zt 164)), zg 166 165 true (.mv (zt 9)), ⟨(some 167), (some (165, true)), (.c (.fn 145 [(zt 166)])), []⟩, zg 168 165 true (.not (zt 167)), zr 169 (.pick (zt 165) (zt 168) (.const (.bool false)))])
  (.cond (zt 169)
  (.seq (.run [zr 170 (.mki 192 (zi 2)), za 6 (.const (.int .u64 0)), za 7 (zt 170)])
  .ret)
  .skip))
  rc132_5)
def rc132_7 : RC := (.seq (.run [zr 94 (.mv (zt 2)), zr 95 (.cvi .u64 (zt 94)), zr 96 (.bin .shl (.const (.int .u64 1)) (zt 95)), zr 97 (.bin .sub (zt 96) (.const (.int .u64 1))), za 11 (zt 97)])
  (.seq (.run [za 12 (.const (.bool false))])
  (.seq (.run [za 13 (.const (.int .u64 0))])
  (.seq (.seq (.run [zr 98 (.mv (zt 0)), zf 99 (.s2b 5 (zt 98)), zr 100 (.lenl (zt 99)), zr 101 (.mv (zi 0))])
  (.block 3 (.loop rc132_4)))
  rc132_6))))
def rc132_8 : RC := (.seq (.run [za 10 (.const (.int .u64 0))])
  (.seq (.seq (.run [zr 85 (.mv (zt 1))])
  (.block 2 (.seq (.run [zr 91 (.bin .eql (zt 85) (zi 10)), za 90 (zt 91)])
  (.cond (zt 90)
  (.run [za 10 (.const (.int .u64 1844674407370955162))])
  (.seq (.run [zr 93 (.bin .eql (zt 85) (zi 16)), za 92 (zt 93)])
  (.cond (zt 92)
  (.run [za 10 (.const (.int .u64 1152921504606846976))])
  (.run [zr 86 (.mv (zt 1)), zr 87 (.cvi .u64 (zt 86)), zr 88 (.bin .quo (.const (.int .u64 18446744073709551615)) (zt 87)), zr 89 (.bin .add (zt 88) (.const (.int .u64 1))), za 10 (zt 89)])))))))
  rc132_7))
def rc132_9 : RC := (.seq (.seq (.run [zr 76 (.mv (zt 2)), zr 77 (.bin .eql (zt 76) (zi 0))])
  (.cond (zt 77)
  (.run [za 2 (zi 64)])
  (.seq (.run [zr 78 (.mv (zt 2)), zr 79 (.bin .lss (zt 78) (zi 0)), zr 80 (.mv (zt 79)), zg 81 80 false (.mv (zt 2)), zg 82 80 false (.bin .gtr (zt 81) (zi 64)), zr 83 (.pick (zt 80) (.const (.bool true)) (zt 82))])
  (.cond (zt 83)
  (.seq (.run [zr 84 (.mki 192 (zi 4)), za 6 (.const (.int .u64 0)), za 7 (zt 84)])
  .ret)
  .skip))))
  rc132_8)
def rc132_10 : RC := (.seq (.run [zr 21 (.mv (zt 1)), zr 22 (.bin .eql (zt 21) (zi 0)), za 8 (zt 22)])
  (.seq (.run [zr 23 (.mv (zt 0)), za 9 (zt 23)])
  (.seq (.block 0 (.seq (.run [zr 26 (.mv (zt 1)), zr 27 (.bin .leq (zi 2) (zt 26)), zr 28 (.mv (zt 27)), zg 29 28 true (.mv (zt 1)), zg 30 28 true (.bin .leq (zt 29) (zi 36)), zr 31 (.pick (zt 28) (zt 30) (.const (.bool false))), za 25 (zt 31)])
  (.cond (zt 25)
  .skip
  (.seq (.run [zr 33 (.mv (zt 1)), zr 34 (.bin .eql (zt 33) (zi 0)), za 32 (zt 34)])
  (.cond (zt 32)
  (.seq (.run [za 1 (zi 10)])
  (.seq (.run [zr 35 (.mv (zt 0)), zr 36 (.ixs (zt 35) (zi 0)), zr 37 (.bin .eql (zt 36) (.const (.int .u8 48)))])
  (.cond (zt 37)
  (.block 1 (.seq (.run [zr 41 (.mv (zt 0)), zr 42 (.lens (zt 41)), zr 43 (.bin .geq (zt 42) (zi 3)), zr 44 (.mv (zt 43)), zg 45 44 true (.mv (zt 0)), zg 46 44 true (.ixs (zt 45) (zi 1)), ⟨(some 47), (some (44, true)), (.c (.fn 144 [(zt 46)])), []⟩, zg 48 44 true (.bin .eql (zt 47) (.const (.int .u8 98))), zr 49 (.pick (zt 44) (zt 48) (.const (.bool false))), za 40 (zt 49)])
  (.cond (zt 40)
  (.seq (.run [za 1 (zi 2)])
  (.run [zr 50 (.mv (zt 0)), zr 51 (.sls (zt 50) (some (zi 2)) none), za 0 (zt 51)]))
  (.seq (.run [zr 53 (.mv (zt 0)), zr 54 (.lens (zt 53)), zr 55 (.bin .geq (zt 54) (zi 3)), zr 56 (.mv (zt 55)), zg 57 56 true (.mv (zt 0)), zg 58 56 true (.ixs (zt 57) (zi 1)), ⟨(some 59), (some (56, true)), (.c (.fn 144 [(zt 58)])), []⟩, zg 60 56 true (.bin .eql (zt 59) (.const (.int .u8 111))), zr 61 (.pick (zt 56) (zt 60) (.const (.bool false))), za 52 (zt 61)])
  (.cond (zt 52)
  (.seq (.run [za 1 (zi 8)])
  (.run [zr 62 (.mv (zt 0)), zr 63 (.sls (zt 62) (some (zi 2)) none), za 0 (zt 63)]))
  (.seq (.run [zr 65 (.mv (zt 0)), zr 66 (.lens (zt 65)), zr 67 (.bin .geq (zt 66) (zi 3)), zr 68 (.mv (zt 67)), zg 69 68 true (.mv (zt 0)), zg 70 68 true (.ixs (zt 69) (zi 1)), ⟨(some 71), (some (68, true)), (.c (.fn 144 [(zt 70)])), []⟩, zg 72 68 true (.bin .eql (zt 71) (.const (.int .u8 120))), zr 73 (.pick (zt 68) (zt 72) (.const (.bool false))), za 64 (zt 73)])
  (.cond (zt 64)
  (.seq (.run [za 1 (zi 16)])
  (.run [zr 74 (.mv (zt 0)), zr 75 (.sls (zt 74) (some (zi 2)) none), za 0 (zt 75)]))
  (.seq (.run [za 1 (zi 8)])
  (.run [zr 38 (.mv (zt 0)), zr 39 (.sls (zt 38) (some (zi 1)) none), za 0 (zt 39)])))))))))
  .skip)))
  (.seq (.run [zr 24 (.mki 192 (zi 3)), za 6 (.const (.int .u64 0)), za 7 (zt 24)])
  .ret))))))
  rc132_9)))
def rc132 : RC := (.seq (.run [za 6 (.const (.int .u64 0)), za 7 (.const .nilIface)])
  (.seq (.seq (.run [zr 18 (.mv (zt 0)), zr 19 (.bin .eql (zt 18) (.const (.string ⟨#[]⟩)))])
  (.cond (zt 19)
  (.seq (.run [zr 20 (.mki 192 (zi 2)), za 6 (.const (.int .u64 0)), za 7 (zt 20)])
  .ret)
  .skip))
  rc132_10))
def ce132 : List (Nat × List Nat × List Nat) := []
def ro132 : List RO := [(.mv (zt 6)), (.mv (zt 7))]
theorem ok132 : okFn Tryz.prog 132 172 ce132 = some (rc132, ro132) := by kernel_rfl
def rc137_0 : RC := (.seq (.run [zr 5 (.mv (zt 0)), zr 6 (.mv (zt 0)), zr 7 (.neg (zt 6)), zr 8 (.bin .and (zt 5) (zt 7)), zr 9 (.bin .mul (zt 8) (.const (.int .u32 125613361))), zr 10 (.bin .shr (zt 9) (.const (.int .u64 27))), zr 11 (.iaa 32 1 (.global 5) (zt 10)), zr 12 (.ld (zt 11)), zr 13 (.cvi .i64 (zt 12)), za 2 (zt 13)])
  .ret)
def rc137 : RC := (.seq (.run [za 2 (zi 0)])
  (.seq (.seq (.run [zr 3 (.mv (zt 0)), zr 4 (.bin .eql (zt 3) (.const (.int .u32 0)))])
  (.cond (zt 4)
  (.seq (.run [za 2 (zi 32)])
  .ret)
  .skip))
  rc137_0))
def ce137 : List (Nat × List Nat × List Nat) := []
def ro137 : List RO := [(.mv (zt 2))]
theorem ok137 : okFn Tryz.prog 137 14 ce137 = some (rc137, ro137) := by kernel_rfl
def rc138_0 : RC := (.seq (.run [zr 5 (.mv (zt 0)), zr 6 (.mv (zt 0)), zr 7 (.neg (zt 6)), zr 8 (.bin .and (zt 5) (zt 7)), zr 9 (.bin .mul (zt 8) (.const (.int .u64 285870213051353865))), zr 10 (.bin .shr (zt 9) (.const (.int .u64 58))), zr 11 (.iaa 64 1 (.global 6) (zt 10)), zr 12 (.ld (zt 11)), zr 13 (.cvi .i64 (zt 12)), za 2 (zt 13)])
  .ret)
def rc138 : RC := (.seq (.run [za 2 (zi 0)])
  (.seq (.seq (.run [zr 3 (.mv (zt 0)), zr 4 (.bin .eql (zt 3) (.const (.int .u64 0)))])
  (.cond (zt 4)
  (.seq (.run [za 2 (zi 64)])
  .ret)
  .skip))
  rc138_0))
def ce138 : List (Nat × List Nat × List Nat) := []
def ro138 : List RO := [(.mv (zt 2))]
theorem ok138 : okFn Tryz.prog 138 14 ce138 = some (rc138, ro138) := by kernel_rfl
def rc144 : RC := (.seq (.run [za 2 (.const (.int .u8 0))])
  (.seq (.run [zr 3 (.mv (zt 0)), zr 4 (.bin .or (zt 3) (.const (.int .u8 32))), za 2 (zt 4)])
  .ret))
def ce144 : List (Nat × List Nat × List Nat) := []
def ro144 : List RO := [(.mv (zt 2))]
theorem ok144 : okFn Tryz.prog 144 5 ce144 = some (rc144, ro144) := by kernel_rfl
end Go.Proofs.YthmhappejchilaaGreatDoor.Ab

set_option linter.unusedVariables false
set_option linter.unusedSimpArgs false
namespace Go.Proofs.YthmhappejchilaaGreatDoor.Ab
open Go Go.RowKit
set_option maxHeartbeats 4000000
set_option maxRecDepth 100000
noncomputable def st1 (r : Nat) : Nat := Bool.rec (Nat.xor (Nat.mod (Nat.mul r 2) 65536) 4129) (Nat.mod (Nat.mul r 2) 65536) (Nat.beq (Nat.land r 32768) 0)
noncomputable def itS : Nat → Nat → Nat
  | 0, r => r
  | j + 1, r => st1 (itS j r)
noncomputable def stepN (r : Nat) : Nat := itS 8 r
noncomputable def crcN (l : List UInt8) : Nat := l.foldl (fun r c => stepN (Nat.xor r (Nat.mul c.toNat 256))) 0
def chkN (l : List UInt8) : Nat := l.foldl (fun r c => (r + c.toNat) % 256) 0
theorem getL1 {L : List Value} {k : Nat} {x : Value} (h : L[k]? = some x) : ∀ hk : k < L.length, L[k]'hk = x := fun hk => by
  rw [List.getElem?_eq_getElem hk] at h
  exact Option.some.inj h
theorem w16 {z : Nat} (h : z < 65536) : IntKind.u16.wrap (z : Int) = (z : Int) := by
  simp only [IntKind.wrap, IntKind.bits, IntKind.signed]
  simp
  omega
theorem w8 {z : Nat} (h : z < 256) : IntKind.u8.wrap (z : Int) = (z : Int) := by
  simp only [IntKind.wrap, IntKind.bits, IntKind.signed]
  simp
  omega
theorem xor16 {a b : Nat} (ha : a < 65536) (hb : b < 65536) : Nat.xor a b < 65536 := Nat.xor_lt_two_pow (n := 16) ha hb
theorem st1_lt {r : Nat} (h : r < 65536) : st1 r < 65536 := by
  have h1 : Nat.mod (Nat.mul r 2) 65536 < 65536 := Nat.mod_lt _ (by omega)
  unfold st1
  cases Nat.beq (Nat.land r 32768) 0
  · exact xor16 h1 (by omega)
  · exact h1
theorem itS_lt {r : Nat} (h : r < 65536) : ∀ j, itS j r < 65536
  | 0 => h
  | j + 1 => st1_lt (itS_lt h j)
theorem stepN_lt {r : Nat} (h : r < 65536) : stepN r < 65536 := itS_lt h 8
theorem d_xor {a b : Nat} (ha : a < 65536) (hb : b < 65536) : dBin .xor (.int .u16 (a : Int)) (.int .u16 (b : Int)) = some (.int .u16 ((Nat.xor a b : Nat) : Int)) := by
  have h := binI_eq (op := .xor) (k := .u16) (a := Int.ofNat a) (b := Int.ofNat b) (v := .int .u16 (IntKind.u16.wrap (Int.ofNat (Nat.xor a b)))) (by
    simp only [binI, bitI]
    rw [blt_true.2 (show a < kTop .u16 by simpa [kTop] using ha), blt_true.2 (show b < kTop .u16 by simpa [kTop] using hb)]
    simp only [wrapF_eq])
  have w : IntKind.u16.wrap (Int.ofNat (Nat.xor a b)) = ((Nat.xor a b : Nat) : Int) := w16 (xor16 ha hb)
  rw [w] at h
  exact h
theorem d_and {a b : Nat} (ha : a < 65536) (hb : b < 65536) : dBin .and (.int .u16 (a : Int)) (.int .u16 (b : Int)) = some (.int .u16 ((Nat.land a b : Nat) : Int)) := by
  have h := binI_eq (op := .and) (k := .u16) (a := Int.ofNat a) (b := Int.ofNat b) (v := .int .u16 (IntKind.u16.wrap (Int.ofNat (Nat.land a b)))) (by
    simp only [binI, bitI]
    rw [blt_true.2 (show a < kTop .u16 by simpa [kTop] using ha), blt_true.2 (show b < kTop .u16 by simpa [kTop] using hb)]
    simp only [wrapF_eq])
  have w : IntKind.u16.wrap (Int.ofNat (Nat.land a b)) = ((Nat.land a b : Nat) : Int) := w16 (Nat.and_lt_two_pow (n := 16) _ hb)
  rw [w] at h
  exact h
theorem d_sh1 {a : Nat} : dBin .shl (.int .u16 (a : Int)) (.int .u64 1) = some (.int .u16 ((Nat.mod (Nat.mul a 2) 65536 : Nat) : Int)) := by
  have : IntKind.u16.wrap ((a : Int) * 2) = ((Nat.mod (Nat.mul a 2) 65536 : Nat) : Int) := by
    show _ = ((a * 2 % 65536 : Nat) : Int)
    simp only [IntKind.wrap, IntKind.bits, IntKind.signed]
    simp
  simp [dBin, IntKind.bits, this]
theorem d_sh8 {a : Nat} (ha : a < 256) : dBin .shl (.int .u16 (a : Int)) (.int .u64 8) = some (.int .u16 ((Nat.mul a 256 : Nat) : Int)) := by
  have : IntKind.u16.wrap ((a : Int) * 256) = ((Nat.mul a 256 : Nat) : Int) := by
    have := w16 (z := a * 256) (by omega)
    show _ = ((a * 256 : Nat) : Int)
    rw [← this]; simp
  simp [dBin, IntKind.bits, this]
theorem c_sstep {w0 : World} {m : Mem} {r : Nat} {Q : Value → Mem → Prop} (hr : r < 65536) (hq : Q (.int .u16 (stepN r : Nat)) m) : AbC Tryz.prog w0 103 [.int .u16 (r : Int)] m Q := by
  refine AbC_fn ok103 (by simp) ?_
  simp -implicitDefEqProofs (disch := first | assumption | (simp only [wnA]; done) | (simp only [wnA]; omega) | omega | fail) [rc103, ro103, wkA, retV, stabOk, dC, ev, fillD, pickCells, putAt, bnd, slD, List.getElem?_cons_zero, List.getElem?_cons_succ, dR_sl, Mem.cell, Mem.row, wmA]
  refine LoopW_of (fun k ts m' => ∃ j, j + k = 8 ∧ m' = m ∧ ts 0 = .int .u16 (itS j r : Nat) ∧ ts 4 = .int .i64 (j : Nat)) 8 ?_ ?_
  · exact ⟨0, by omega, rfl, by simp [frA_at, itS], by simp⟩
  · rintro k ts m1 K ⟨j, hj, rfl, t0, t4⟩ hK
    by_cases hjl : j < 8
    · have hlt := itS_lt hr j
      have q1 : dBin .and (.int .u16 (itS j r : Nat)) (.int .u16 32768) = some (.int .u16 ((Nat.land (itS j r) 32768 : Nat) : Int)) := d_and hlt (b := 32768) (by omega)
      have q2 := d_sh1 (a := itS j r)
      have q3 := d_xor (a := Nat.mod (Nat.mul (itS j r) 2) 65536) (Nat.mod_lt _ (by omega)) (b := 4129) (by omega)
      have hn : ∀ ts' : Fr, ts' 0 = .int .u16 (st1 (itS j r) : Nat) → ts' 4 = .int .i64 ((j : Int) + 1) → K ts' m1 := fun ts' r0 r4 => hK (k - 1) ts' m1 (by omega) ⟨j + 1, by omega, rfl, r0, by rw [r4]; rfl⟩
      have hj8 : (j : Int) < 8 := by omega
      have w1 : IntKind.i64.wrap ((j : Int) + 1) = (j : Int) + 1 := w64 (by omega)
      unfold st1 at hn
      generalize itS j r = z at *
      have q4 : (((Nat.land z 32768 : Nat) : Int) != 0) = !Nat.beq (Nat.land z 32768) 0 := by
        cases hb : Nat.beq (Nat.land z 32768) 0 with
        | true => have := Nat.eq_of_beq_eq_true hb; rw [this]; rfl
        | false => have := Nat.ne_of_beq_eq_false hb; simpa using this
      generalize Nat.land z 32768 = z1 at *
      generalize Nat.mod (Nat.mul z 2) 65536 = z2 at *
      cases hb : Nat.beq z1 0 with
      | true =>
        rw [hb] at q4 hn
        have q4 : ((z1 : Int) != 0) = false := q4
        have hn : ∀ ts' : Fr, ts' 0 = .int .u16 (z2 : Nat) → ts' 4 = .int .i64 ((j : Int) + 1) → K ts' m1 := hn
        simp -implicitDefEqProofs (disch := first | assumption | (simp only [wnA]; done) | (simp only [wnA]; omega) | omega | fail) [rc103_1, rc103_0, wkA, retV, stabOk, dC, ev, fillD, pickCells, putAt, bnd, slD, List.getElem?_cons_zero, List.getElem?_cons_succ, dR_sl, Mem.cell, Mem.row, wmA, t0, t4, hj8, q1, q2, q4, w1]
        refine hn _ ?_ ?_
        · first | rfl | assumption | simp
        · first | rfl | assumption | simp
      | false =>
        rw [hb] at q4 hn
        have q4 : ((z1 : Int) != 0) = true := q4
        have hn : ∀ ts' : Fr, ts' 0 = .int .u16 (Nat.xor z2 4129 : Nat) → ts' 4 = .int .i64 ((j : Int) + 1) → K ts' m1 := hn
        have q3 : dBin .xor (.int .u16 (z2 : Int)) (.int .u16 4129) = some (.int .u16 ((Nat.xor z2 4129 : Nat) : Int)) := q3
        generalize Nat.xor z2 4129 = z3 at *
        simp only [dBin_xor] at q3
        have q3 : xorK .u16 (z2 : Int) 4129 = (z3 : Int) := by injection q3 with q3; injection q3
        simp -implicitDefEqProofs (disch := first | assumption | (simp only [wnA]; done) | (simp only [wnA]; omega) | omega | fail) [rc103_1, rc103_0, wkA, retV, stabOk, dC, ev, fillD, pickCells, putAt, bnd, slD, List.getElem?_cons_zero, List.getElem?_cons_succ, dR_sl, Mem.cell, Mem.row, wmA, t0, t4, hj8, q1, q2, q4, q3, w1]
        refine hn _ ?_ ?_
        · first | rfl | assumption | simp
        · first | rfl | assumption | simp
    · have hjj : j = 8 := by omega
      subst hjj
      simp -implicitDefEqProofs (disch := first | assumption | (simp only [wnA]; done) | (simp only [wnA]; omega) | omega | fail) [rc103_1, rc103_2, wkA, retV, stabOk, dC, ev, fillD, pickCells, putAt, bnd, slD, List.getElem?_cons_zero, List.getElem?_cons_succ, dR_sl, Mem.cell, Mem.row, wmA, t0, t4]
      exact hq
theorem crcN_take {l : List UInt8} {j : Nat} (hj : j < l.length) : (l.take (j + 1)).foldl (fun r c => stepN (Nat.xor r (Nat.mul c.toNat 256))) 0 = stepN (Nat.xor ((l.take j).foldl (fun r c => stepN (Nat.xor r (Nat.mul c.toNat 256))) 0) (Nat.mul (l[j]).toNat 256)) := by
  rw [List.take_add_one, List.getElem?_eq_getElem hj, List.foldl_append]; rfl
theorem foldlt : ∀ (l : List UInt8) {r : Nat}, r < 65536 → l.foldl (fun r c => stepN (Nat.xor r (Nat.mul c.toNat 256))) r < 65536
  | [], _, h => h
  | c :: l, r, h => foldlt l (stepN_lt (xor16 h (by have := c.toNat_lt; show c.toNat * 256 < 65536; omega)))
theorem crcN_lt (l : List UInt8) : crcN l < 65536 := foldlt l (by omega)
theorem chkN_take {l : List UInt8} {j : Nat} (hj : j < l.length) : chkN (l.take (j + 1)) = (chkN (l.take j) + (l[j]).toNat) % 256 := by
  unfold chkN
  rw [List.take_add_one, List.getElem?_eq_getElem hj, List.foldl_append]; rfl
theorem chkN_lt (l : List UInt8) : chkN l < 256 := by
  have : ∀ (l : List UInt8) {r : Nat}, r < 256 → l.foldl (fun r c => (r + c.toNat) % 256) r < 256 := by
    intro l
    induction l with
    | nil => intro r h; exact h
    | cons c l ih => intro r h; exact ih (Nat.mod_lt _ (by omega))
  exact this l (by omega)
theorem c_Crc {w0 : World} {m : Mem} {v : Value} {l : List UInt8} {Q : Value → Mem → Prop} (hv : SlR m 1 v (l.map byteV) l.length) (hL : l.length ≤ maxLen) (hq : Q (.int .u16 (crcN l : Nat)) m) : AbC Tryz.prog w0 82 [v] m Q := by
  refine AbC_fn ok82 (by simp) ?_
  have hlen : lenV v = l.length := hv.lenV
  have hL : l.length ≤ 9223372036854775807 := by unfold maxLen at hL; omega
  simp -implicitDefEqProofs (disch := first | assumption | (simp only [wnA]; done) | (simp only [wnA]; omega) | omega | fail) [rc82, ro82, wkA, retV, stabOk, dC, ev, fillD, pickCells, putAt, bnd, slD, List.getElem?_cons_zero, List.getElem?_cons_succ, dR_sl, Mem.cell, Mem.row, wmA, hv.slen]
  refine LoopW_of (fun k ts m' => ∃ j, j + k = l.length ∧ m' = m ∧ ts 6 = v ∧ ts 7 = .int .i64 (l.length : Nat) ∧ ts 8 = .int .i64 (j : Nat) ∧ ts 3 = .int .u16 ((l.take j).foldl (fun r c => stepN (Nat.xor r (Nat.mul c.toNat 256))) 0 : Nat)) l.length ?_ ?_
  · exact ⟨0, by omega, rfl, by simp [frA_at], by simp, by simp, by simp⟩
  · rintro k ts m1 K ⟨j, hj, rfl, t6, t7, t8, t3⟩ hK
    by_cases hjl : j < l.length
    · have hj8 : (j : Int) < (l.length : Nat) := by omega
      obtain ⟨i, o, L, e1, e2, e3, e4, e5⟩ := hv.at hjl
      have hc : L[o + j * 1]? = some (.int .u8 ((l[j]).toNat : Int)) := by
        have := e5 0 (by omega)
        simpa [hjl, byteV] using this
      have hc := getL1 (by rw [Nat.mul_one] at hc; exact hc : L[o + j]? = _)
      have hidx : sidx 1 v (.int .i64 (j : Int)) = some (.pointer (some ⟨i, o + j * 1, none⟩)) := by rw [e1]; exact sidx_at hjl
      have w1 : IntKind.i64.wrap ((j : Int) + 1) = (j : Int) + 1 := w64 (by omega)
      have hcl := (l[j]).toNat_lt
      have q1 := d_sh8 (a := (l[j]).toNat) (by omega)
      have hr : (l.take j).foldl (fun r c => stepN (Nat.xor r (Nat.mul c.toNat 256))) 0 < 65536 := foldlt _ (by omega)
      have hn := crcN_take hjl
      have hx : Nat.mul (l[j]).toNat 256 < 65536 := by show (l[j]).toNat * 256 < 65536; omega
      have q2 := d_xor hr hx
      have wc : IntKind.u16.wrap ((l[j]).toNat : Int) = ((l[j]).toNat : Int) := w16 (by omega)
      generalize Nat.mul (l[j]).toNat 256 = x at *
      generalize (l.take j).foldl (fun r c => stepN (Nat.xor r (Nat.mul c.toNat 256))) 0 = r at *
      have hs := xor16 hr hx
      simp only [dBin_xor] at q2
      have q2 : xorK .u16 (r : Int) (x : Int) = (Nat.xor r x : Nat) := by injection q2 with q2; injection q2
      generalize Nat.xor r x = y at *
      simp -implicitDefEqProofs (disch := first | assumption | (simp only [wnA]; done) | (simp only [wnA]; omega) | omega | fail) [rc82_1, rc82_0, wkA, retV, stabOk, dC, ev, fillD, pickCells, putAt, bnd, slD, List.getElem?_cons_zero, List.getElem?_cons_succ, dR_sl, Mem.cell, Mem.row, wmA, t6, t7, t8, t3, hj8, hidx, e2, hc, q1, q2, w1, wc]
      refine c_sstep hs ?_
      simp -implicitDefEqProofs (disch := first | assumption | (simp only [wnA]; done) | (simp only [wnA]; omega) | omega | fail) [wkA, retV, stabOk, dC, ev, fillD, pickCells, putAt, bnd, slD, List.getElem?_cons_zero, List.getElem?_cons_succ, dR_sl, Mem.cell, Mem.row, wmA, t8, w1]
      refine hK (k - 1) _ _ (by omega) ⟨j + 1, by omega, rfl, by first | exact t6 | simp [t6], by first | exact t7 | simp [t7], by first | rfl | simp, ?_⟩
      rw [hn]; first | rfl | simp
    · have hjj : j = l.length := by omega
      subst hjj
      have hj8 : ¬ ((l.length : Nat) : Int) < (l.length : Nat) := by omega
      rw [List.take_length] at t3
      simp -implicitDefEqProofs (disch := first | assumption | (simp only [wnA]; done) | (simp only [wnA]; omega) | omega | fail) [rc82_1, rc82_2, wkA, retV, stabOk, dC, ev, fillD, pickCells, putAt, bnd, slD, List.getElem?_cons_zero, List.getElem?_cons_succ, dR_sl, Mem.cell, Mem.row, wmA, t3, t7, t8, hj8]
      exact hq
theorem c_Chk {w0 : World} {m : Mem} {v : Value} {l : List UInt8} {Q : Value → Mem → Prop} (hv : SlR m 1 v (l.map byteV) l.length) (hL : l.length ≤ maxLen) (hq : Q (.int .u8 (chkN l : Nat)) m) : AbC Tryz.prog w0 81 [v] m Q := by
  refine AbC_fn ok81 (by simp) ?_
  have hlen : lenV v = l.length := hv.lenV
  have hL : l.length ≤ 9223372036854775807 := by unfold maxLen at hL; omega
  simp -implicitDefEqProofs (disch := first | assumption | (simp only [wnA]; done) | (simp only [wnA]; omega) | omega | fail) [rc81, ro81, wkA, retV, stabOk, dC, ev, fillD, pickCells, putAt, bnd, slD, List.getElem?_cons_zero, List.getElem?_cons_succ, dR_sl, Mem.cell, Mem.row, wmA, hv.slen]
  refine LoopW_of (fun k ts m' => ∃ j, j + k = l.length ∧ m' = m ∧ ts 6 = v ∧ ts 7 = .int .i64 (l.length : Nat) ∧ ts 8 = .int .i64 (j : Nat) ∧ ts 3 = .int .u8 (chkN (l.take j) : Nat)) l.length ?_ ?_
  · exact ⟨0, by omega, rfl, by simp [frA_at], by simp, by simp, by simp [chkN]⟩
  · rintro k ts m1 K ⟨j, hj, rfl, t6, t7, t8, t3⟩ hK
    by_cases hjl : j < l.length
    · have hj8 : (j : Int) < (l.length : Nat) := by omega
      obtain ⟨i, o, L, e1, e2, e3, e4, e5⟩ := hv.at hjl
      have hc : L[o + j * 1]? = some (.int .u8 ((l[j]).toNat : Int)) := by
        have := e5 0 (by omega)
        simpa [hjl, byteV] using this
      have hc := getL1 (by rw [Nat.mul_one] at hc; exact hc : L[o + j]? = _)
      have hidx : sidx 1 v (.int .i64 (j : Int)) = some (.pointer (some ⟨i, o + j * 1, none⟩)) := by rw [e1]; exact sidx_at hjl
      have w1 : IntKind.i64.wrap ((j : Int) + 1) = (j : Int) + 1 := w64 (by omega)
      have hcl := (l[j]).toNat_lt
      have wc : IntKind.u8.wrap ((chkN (l.take j) : Int) + ((l[j]).toNat : Int)) = (((chkN (l.take j) + (l[j]).toNat) % 256 : Nat) : Int) := by
        simp only [IntKind.wrap, IntKind.bits, IntKind.signed]
        simp
      have hn := chkN_take hjl
      generalize (chkN (l.take j) + (l[j]).toNat) % 256 = r2 at *
      generalize chkN (l.take j) = r at *
      simp -implicitDefEqProofs (disch := first | assumption | (simp only [wnA]; done) | (simp only [wnA]; omega) | omega | fail) [rc81_1, rc81_0, wkA, retV, stabOk, dC, ev, fillD, pickCells, putAt, bnd, slD, List.getElem?_cons_zero, List.getElem?_cons_succ, dR_sl, Mem.cell, Mem.row, wmA, t6, t7, t8, t3, hj8, hidx, e2, hc, w1, wc]
      refine hK (k - 1) _ _ (by omega) ⟨j + 1, by omega, rfl, by first | exact t6 | simp [t6], by first | exact t7 | simp [t7], by first | rfl | simp, ?_⟩
      rw [hn]; first | rfl | simp
    · have hjj : j = l.length := by omega
      subst hjj
      have hj8 : ¬ ((l.length : Nat) : Int) < (l.length : Nat) := by omega
      rw [List.take_length] at t3
      simp -implicitDefEqProofs (disch := first | assumption | (simp only [wnA]; done) | (simp only [wnA]; omega) | omega | fail) [rc81_1, rc81_2, wkA, retV, stabOk, dC, ev, fillD, pickCells, putAt, bnd, slD, List.getElem?_cons_zero, List.getElem?_cons_succ, dR_sl, Mem.cell, Mem.row, wmA, t3, t7, t8, hj8]
      exact hq
end Go.Proofs.YthmhappejchilaaGreatDoor.Ab

set_option linter.unusedVariables false
set_option linter.unusedSimpArgs false
namespace Go.Proofs.YthmhappejchilaaGreatDoor.Ab
open Go Go.RowKit
set_option maxHeartbeats 4000000
set_option maxRecDepth 100000
/-- What lies in X is kept. -/
def Keeps (X : Nat → Prop) (m m' : Mem) : Prop := m.next ≤ m'.next ∧ ∀ i, i < m.next → X i → m'.get i = m.get i
theorem Keeps.refl (X : Nat → Prop) (m : Mem) : Keeps X m m := ⟨Nat.le_refl _, fun _ _ _ => rfl⟩
theorem Keeps.trans {X : Nat → Prop} {a b c : Mem} (h : Keeps X a b) (k : Keeps X b c) : Keeps X a c :=
  ⟨Nat.le_trans h.1 k.1, fun i hi hn => by rw [k.2 i (Nat.lt_of_lt_of_le hi h.1) hn, h.2 i hi hn]⟩
theorem Keeps.mono {X Y : Nat → Prop} {a b : Mem} (h : Keeps X a b) (hy : ∀ i, i < a.next → Y i → X i) : Keeps Y a b := ⟨h.1, fun i hi hn => h.2 i hi (hy i hi hn)⟩
theorem Old.keeps {X : Nat → Prop} {a b : Mem} (h : Old a b) : Keeps X a b := ⟨h.1, fun i hi _ => h.2 i hi⟩
theorem Keeps.set {X : Nat → Prop} {a b : Mem} (h : Keeps X a b) {i : Nat} (hi : i < a.next → ¬ X i) (e : Ent) : Keeps X a (b.set i e) := ⟨h.1, fun k hk hx => by rw [Mem.set_other _ _ (fun e => hi (by omega) (by rw [← e]; exact hx)), h.2 k hk hx]⟩
theorem Keeps.push {X : Nat → Prop} {a b : Mem} (h : Keeps X a b) (e : Ent) : Keeps X a (b.push e) := ⟨Nat.le_trans h.1 (by simp), fun k hk hx => by rw [Mem.push_old _ _ (Nat.lt_of_lt_of_le hk h.1), h.2 k hk hx]⟩
theorem Keeps.kill {X : Nat → Prop} {a b : Mem} (h : Keeps X a b) {ob : Option Nat} (hi : ∀ i, ob = some i → i < a.next → ¬ X i) : Keeps X a (b.kill ob) := ⟨h.1, fun k hk hx => by rw [Mem.kill_other _ (fun e => hi k e hk hx), h.2 k hk hx]⟩
/-- A slice that is only read, in blocks of X. -/
structure RdV (X : Nat → Prop) (m : Mem) (sz : Nat) (v : Value) (cs : List Value) (n : Nat) : Prop where
  sl : SlR m sz v cs n
  bl : ∀ b, blk v = some b → b < m.next ∧ X b
theorem RdV.keep {X : Nat → Prop} {m m' : Mem} {sz n : Nat} {v : Value} {cs : List Value} (h : RdV X m sz v cs n) (k : Keeps X m m') : RdV X m' sz v cs n :=
  ⟨h.sl.keep fun b hb => k.2 b (h.bl b hb).1 (h.bl b hb).2, fun b hb => ⟨Nat.lt_of_lt_of_le (h.bl b hb).1 k.1, (h.bl b hb).2⟩⟩
theorem RdV.mono {X Y : Nat → Prop} {m : Mem} {sz n : Nat} {v : Value} {cs : List Value} (h : RdV X m sz v cs n) (hy : ∀ i, i < m.next → X i → Y i) : RdV Y m sz v cs n :=
  ⟨h.sl, fun b hb => ⟨(h.bl b hb).1, hy b (h.bl b hb).1 (h.bl b hb).2⟩⟩
theorem SK_stK {P : Program} {w0 : World} {ts : Fr} {m : Mem} {R : Value → Mem → Prop} {n i o : Nat} {p x : Operand} {cs cs' vs : List Value} {e : TypeId} (hp : ev ts p = .pointer (some ⟨i, o, none⟩)) (hm : m.get i = .own cs e) (hv : cellsV (ev ts x) = vs) (h1 : o + n ≤ cs.length) (h2 : vs.length = n) (h3 : vs.all oneC = true)
    (hM : putAt cs o vs = cs') (hR : R undef (m.set i (.own cs' e))) : SK P w0 (.e (.st n p x)) ts m R := by
  subst hv
  subst hM
  exact SK_st hp hm h1 h2 h3 hR
end Go.Proofs.YthmhappejchilaaGreatDoor.Ab

set_option maxRecDepth 20000
namespace Go.Proofs.YthmhappejchilaaGreatDoor.Ab
open Go Go.RowKit
noncomputable def tab : List TE := [⟨119, 8, rc119, ro119⟩, ⟨120, 8, rc120, ro120⟩, ⟨137, 14, rc137, ro137⟩, ⟨138, 14, rc138, ro138⟩]
theorem tab_ok : TOk Tryz.prog tab := by
  intro t ht
  simp only [tab, List.mem_cons, List.mem_nil_iff, or_false] at ht
  rcases ht with rfl | rfl | rfl | rfl
  · exact ⟨_, ok119⟩
  · exact ⟨_, ok120⟩
  · exact ⟨_, ok137⟩
  · exact ⟨_, ok138⟩
theorem fnd121 : Extern.findNext Tryz.f121 = none := by kernel_rfl
theorem xis121 : xIs Tryz.prog 121 .same := ⟨Tryz.f121, _, Tryz.func121, by kernel_rfl, by kernel_rfl, fnd121, (by kernel_rfl : Extern.find Tryz.f121 = some Extern.AbiNoEscape.same), rfl⟩
theorem fnd122 : Extern.findNext Tryz.f122 = none := by kernel_rfl
theorem xis122 : xIs Tryz.prog 122 (.mnz 5) := ⟨Tryz.f122, _, Tryz.func122, by kernel_rfl, by kernel_rfl, fnd122, (by kernel_rfl : Extern.find Tryz.f122 = some (Extern.BytealgMakeNoZero.makeNoZero #[3] #[24])), _, _, rfl, by kernel_rfl⟩
theorem fnd139 : Extern.findNext Tryz.f139 = none := by kernel_rfl
theorem xis139 : xIs Tryz.prog 139 .idx := ⟨Tryz.f139, _, Tryz.func139, by kernel_rfl, by kernel_rfl, fnd139, (by kernel_rfl : Extern.find Tryz.f139 = some Extern.BytealgIndexByte.indexByte), rfl⟩
theorem fnd129 : Extern.findNext Tryz.f129 = none := by kernel_rfl
theorem xis129 : xIs Tryz.prog 129 .cnt := ⟨Tryz.f129, _, Tryz.func129, by kernel_rfl, by kernel_rfl, fnd129, (by kernel_rfl : Extern.find Tryz.f129 = some Extern.BytealgCount.count), rfl⟩
def xs : List (FuncId × XK) := [(121, .same), (122, .mnz 5), (139, .idx), (129, .cnt)]
theorem xs_all : ∀ x ∈ xs, xIs Tryz.prog x.1 x.2 := by
  intro x hx
  simp only [xs, List.mem_cons, List.mem_nil_iff, or_false] at hx
  rcases hx with rfl | rfl | rfl | rfl
  · exact xis121
  · exact xis122
  · exact xis139
  · exact xis129
theorem xs_ok : XOk Tryz.prog (xCall xs) := xCall_ok xs_all
end Go.Proofs.YthmhappejchilaaGreatDoor.Ab

set_option linter.unusedVariables false
set_option linter.unusedSimpArgs false
set_option maxHeartbeats 4000000
set_option maxRecDepth 100000
namespace Go.Proofs.YthmhappejchilaaGreatDoor.Ab
open Go Go.RowKit
def z32 : List Int := [0, 1, 28, 2, 29, 14, 24, 3, 30, 22, 20, 15, 25, 17, 4, 8, 31, 27, 13, 23, 21, 19, 16, 7, 26, 12, 18, 6, 11, 5, 10, 9]
def z64 : List Int := [0, 1, 56, 2, 57, 49, 28, 3, 61, 58, 42, 50, 38, 29, 17, 4, 62, 47, 59, 36, 45, 43, 51, 22, 53, 39, 33, 30, 24, 18, 12, 5, 63, 55, 48, 27, 60, 41, 37, 16, 46, 35, 44, 21, 52, 32, 23, 11, 54, 26, 40, 15, 34, 20, 31, 10, 25, 14, 19, 9, 13, 8, 7, 6]
def z10 : List Int := [1, 10, 100, 1000, 10000, 100000, 1000000, 10000000, 100000000, 1000000000, 10000000000, 100000000000, 1000000000000, 10000000000000, 100000000000000, 1000000000000000, 10000000000000000, 100000000000000000, 1000000000000000000, 10000000000000000000]
def e32 : List Value := z32.map fun z => .int .u8 z
def e64 : List Value := z64.map fun z => .int .u8 z
def e10 : List Value := z10.map fun z => .int .u64 z
def gs0 : List (Nat × List Value) := [(5, e32), (6, e64), (1, e10)]
def L0 : LM := ⟨9, (.n (.n (.n (.n (.n .dead (.ro e10) .dead .dead .dead (.ro e32) (.ro e64) .dead) .e .e .e .e .e .e .e) .e .e .e .e .e .e .e) .e .e .e .e .e .e .e) .e .e .e .e .e .e .e)⟩
theorem globals_size : Tryz.prog.globals.size = L0.n := by kernel_rfl
theorem L0_get (i : Nat) : L0.get i = entOf gs0 i := by
  by_cases h : i < 9
  · have : i = 0 ∨ i = 1 ∨ i = 2 ∨ i = 3 ∨ i = 4 ∨ i = 5 ∨ i = 6 ∨ i = 7 ∨ i = 8 := by omega
    rcases this with rfl | rfl | rfl | rfl | rfl | rfl | rfl | rfl | rfl <;> rfl
  · rw [LM.get_ge h]
    have n5 : (i == 5) = false := by simp; omega
    have n6 : (i == 6) = false := by simp; omega
    have n1 : (i == 1) = false := by simp; omega
    simp [entOf, gs0, List.lookup_cons, n5, n6, n1]
theorem laid_ok : laidB Tryz.prog gs0 = true := by kernel_rfl
theorem L0_part : partB L0 = true := by kernel_rfl
theorem laidIn {W : World} {l : List (String × DataW Unit)} (h : laidMet Tryz.prog l W) (h1 : ("math/bits.deBruijn32tab", Lib.tabData .u8 z32) ∈ l) (h2 : ("math/bits.deBruijn64tab", Lib.tabData .u8 z64) ∈ l) (h3 : ("internal/strconv.uint64pow10", Lib.tabData .u64 z10) ∈ l) : LaidIn Tryz.prog W gs0 where
  cell := by
    intro x hx
    simp only [gs0, List.mem_cons, List.mem_nil_iff, or_false] at hx
    rcases hx with rfl | rfl | rfl
    · exact laid_tab h h1 (by kernel_rfl) (by kernel_rfl) Tryz.underlying207 Tryz.underlying5 (by kernel_rfl) (by kernel_rfl)
    · exact laid_tab h h2 (by kernel_rfl) (by kernel_rfl) Tryz.underlying208 Tryz.underlying5 (by kernel_rfl) (by kernel_rfl)
    · exact laid_tab h h3 (by kernel_rfl) (by kernel_rfl) Tryz.underlying184 Tryz.underlying154 (by kernel_rfl) (by kernel_rfl)
end Go.Proofs.YthmhappejchilaaGreatDoor.Ab

set_option linter.unusedVariables false
set_option linter.unusedSimpArgs false
namespace Go.Proofs.YthmhappejchilaaGreatDoor.Ab
open Go Go.RowKit
set_option maxHeartbeats 4000000
set_option maxRecDepth 100000
theorem closed {w0 : World} {m : Mem} {f : FuncId} {args : List Value} {v : Value} {Q : Value → Mem → Prop} {n : Nat} (hp : Part L0 m) (ha : args.all (plainV 6) = true) (h : outIs v (callE tab (xCall xs) Tryz.prog n f args L0) = true) (hv : plainV 6 v = true) (hq : Q v m) : AbC Tryz.prog w0 f args m Q :=
  AbC_run n tab_ok xs_ok hp (Nat.le_of_eq globals_size) ha h hv hq
/-- The sign of a digit. -/
def digC (d : Nat) : UInt8 := if d < 10 then UInt8.ofNat (48 + d) else UInt8.ofNat (87 + d)
/-- A number's digits in a base. -/
def digs (b n : Nat) : List UInt8 := if h : n < b ∨ b < 2 then [digC n] else digs b (n / b) ++ [digC (n % b)]
termination_by n
decreasing_by exact Nat.div_lt_self (by omega) (by omega)
theorem digs_lt {b n : Nat} (h : n < b) : digs b n = [digC n] := by rw [digs, dif_pos (.inl h)]
theorem digs_ge {b n : Nat} (hb : 2 ≤ b) (h : b ≤ n) : digs b n = digs b (n / b) ++ [digC (n % b)] := by rw [digs, dif_neg (by omega)]
theorem digs_pos (b n : Nat) : 1 ≤ (digs b n).length := by
  rw [digs]; split <;> simp
theorem digs_len {b : Nat} (hb : 2 ≤ b) : ∀ (L n : Nat), n < b ^ L → (digs b n).length ≤ max L 1
  | 0, n, h => by
    have : n < b := by simp at h; omega
    rw [digs_lt this]; simp
  | L + 1, n, h => by
    by_cases hn : n < b
    · rw [digs_lt hn]; simp
    · rw [digs_ge hb (by omega)]
      have h1 : n / b < b ^ L := by
        rw [Nat.div_lt_iff_lt_mul (by omega)]
        rw [Nat.pow_succ] at h; exact h
      have := digs_len hb L (n / b) h1
      simp only [List.length_append, List.length_cons, List.length_nil]
      by_cases hL : L = 0
      · subst hL
        exfalso
        simp at h; omega
      · omega
theorem digs_64 {b n : Nat} (hb : 8 ≤ b) (h : n < 18446744073709551616) : (digs b n).length ≤ 22 := by
  have h1 : (8 : Nat) ^ 22 ≤ b ^ 22 := Nat.pow_le_pow_left hb 22
  have h2 : (8 : Nat) ^ 22 = 73786976294838206464 := by decide
  have := digs_len (show 2 ≤ b by omega) 22 n (by omega)
  simpa using this
def digitsS : ByteArray := ⟨#[48, 49, 50, 51, 52, 53, 54, 55, 56, 57, 97, 98, 99, 100, 101, 102, 103, 104, 105, 106, 107, 108, 109, 110, 111, 112, 113, 114, 115, 116, 117, 118, 119, 120, 121, 122]⟩
theorem digitsS_at : ∀ d : Fin 36, digitsS[d.val]? = some (digC d.val) := by decide +kernel
theorem dAnd {u k : Nat} (hu : u < 18446744073709551616) (hk : k ≤ 63) {z : Int} (hz : z = ((2 ^ k - 1 : Nat) : Int)) : dBin .and (.int .u64 (u : Int)) (.int .u64 z) = some (.int .u64 ((u % 2 ^ k : Nat) : Int)) := by
  subst hz
  have h2 : (2 : Nat) ^ k ≤ 2 ^ 63 := Nat.pow_le_pow_right (by omega) hk
  have hp : 0 < (2 : Nat) ^ k := Nat.pow_pos (by omega)
  have h1 := binI_eq (op := .and) (k := .u64) (a := Int.ofNat u) (b := Int.ofNat (2 ^ k - 1)) (v := .int .u64 (IntKind.u64.wrap (Int.ofNat (Nat.land u (2 ^ k - 1))))) (by
    simp only [binI, bitI]
    rw [blt_true.2 (show u < kTop .u64 by simpa [kTop] using hu), blt_true.2 (show 2 ^ k - 1 < kTop .u64 by simp only [kTop]; omega)]
    simp only [wrapF_eq])
  have h3 : Nat.land u (2 ^ k - 1) = u % 2 ^ k := Nat.and_two_pow_sub_one_eq_mod u k
  have h4 : u % 2 ^ k < 2 ^ k := Nat.mod_lt _ hp
  have h5 : IntKind.u64.wrap (Int.ofNat (u % 2 ^ k)) = ((u % 2 ^ k : Nat) : Int) := by rw [IntWalk.u64_in]; rfl; simp only [Int.ofNat_eq_natCast]; omega
  rw [h3, h5] at h1
  exact h1
theorem dShr {u k : Nat} (hk : k ≤ 63) {z : Int} (hz : z = (k : Int)) : dBin .shr (.int .u64 (u : Int)) (.int .u64 z) = some (.int .u64 ((u / 2 ^ k : Nat) : Int)) := by
  subst hz
  have h1 := shI_eq (op := .shr) (k := .u64) (k' := .u64) (a := Int.ofNat u) (b := Int.ofNat k) (v := .int .u64 (Int.ofNat (Nat.shiftRight u k))) (by
    simp only [shI]
    rw [Nat.ble_eq_true_of_le (show k ≤ kBits .u64 by simp only [kBits]; omega)])
  have h2 : Nat.shiftRight u k = u / 2 ^ k := Nat.shiftRight_eq_div_pow u k
  rw [h2] at h1
  exact h1
/-- The last digit's place: cells with one more written ahead of the rest. -/
theorem putAt_ahead {cs : List Value} {t : List UInt8} {c : UInt8} (hl : cs.length = 65) (ht : t.length < 65) (hd : cs.drop (65 - t.length) = t.map byteV) :
    (putAt cs (65 - t.length - 1) [.int .u8 c.toNat]).length = 65 ∧ (putAt cs (65 - t.length - 1) [.int .u8 c.toNat]).drop (65 - (c :: t).length) = (c :: t).map byteV := by
  have e1 : 65 - (c :: t).length = 65 - t.length - 1 := by simp; omega
  have e2 : 65 - t.length - 1 + 1 = 65 - t.length := by omega
  have h9 : (cs.drop (65 - t.length)).length = t.length := by rw [hd]; simp
  refine ⟨by simp only [putAt, List.length_append, List.length_take, List.length_cons, List.length_nil, Nat.zero_add, e2, h9, hl]; omega, ?_⟩
  rw [e1]
  simp only [putAt, List.length_cons, List.length_nil, Nat.zero_add, e2, hd]
  rw [List.append_assoc, List.drop_append, List.length_take]
  rw [show min (65 - t.length - 1) cs.length = 65 - t.length - 1 from by omega, Nat.sub_self]
  rw [List.drop_eq_nil_of_le (by rw [List.length_take]; omega)]
  simp [byteV]
theorem bytesOf_mapN : ∀ (l : List UInt8), bytesOf (l.map byteV) = some l
  | [] => rfl
  | b :: l => by
    show (bytesOf (l.map byteV)).map (UInt8.ofNat ((b.toNat : Int).toNat) :: ·) = _
    rw [bytesOf_mapN l]
    simp
theorem bstr_tail {m : Mem} {i J : Nat} {e : TypeId} {cs : List Value} {t : List UInt8} (hg : m.get i = .own cs e) (hl : cs.length = 65) (hJ : 65 - t.length = J) (ht : t.length ≤ 65) (hd : cs.drop (65 - t.length) = t.map byteV) :
    bstr m (.slice (some ⟨i, J, none⟩) (65 - J) 1) = some (.string ⟨⟨t⟩⟩) := by
  rw [hJ] at hd
  have h1 : (cs.drop J).take (65 - J) = t.map byteV := by rw [hd]; exact List.take_of_length_le (by simp; omega)
  simp only [bstr, Mem.row_own hg]
  rw [if_pos (by omega), h1]
  simp only [bytesOf_mapN]
/-- What the sign adds. -/
def sgn (neg : Bool) : List UInt8 := if neg then [45] else []
theorem c_fmtTail {w0 : World} {m m1 : Mem} {ts : Fr} {B k a i : Nat} {neg : Bool} {Q : Value → Mem → Prop} {zs : List Value} (hp : Part L0 m1) (ho : Old m m1) (hi : m.next ≤ i) (hi2 : i < m1.next) (hz : m1.get i = .own zs 185) (hzl : zs.length = 65)
    (hB : B = 2 ^ k) (hk : 3 ≤ k ∧ k ≤ 5) (hB2 : 8 ≤ B) (hB3 : B ≤ 32) (ha : a < 18446744073709551616)
    (t1 : ts 1 = .int .u64 (a : Int)) (t2 : ts 2 = .int .i64 (B : Int)) (t3 : ts 3 = .bool neg) (t4 : ts 4 = .bool false) (t10 : ts 10 = .slice none 0 0) (t12 : ts 12 = .pointer (some ⟨i, 0, none⟩)) (t13 : ts 13 = .int .i64 65)
    (h1 : outIs (.bool true) (callE tab (xCall xs) Tryz.prog 50 119 [.int .i64 (B : Int)] L0) = true)
    (h2 : outIs (.int .i64 (k : Int)) (callE tab (xCall xs) Tryz.prog 50 120 [.int .u64 (B : Int)] L0) = true)
    (hq : ∀ m', Old m m' → Q (.tuple ⟨[.slice none 0 0, .string ⟨⟨sgn neg ++ digs B a⟩⟩]⟩) m') :
    AbW Tryz.prog w0 rc99_9 (bodyA ro99 Q) ts m1 := by
  have wB : IntKind.u64.wrap (B : Int) = B := IntWalk.u64_in _ (by omega)
  have wk : IntKind.u64.wrap (k : Int) = k := IntWalk.u64_in _ (by omega)
  have wB1 : IntKind.u64.wrap ((B : Int) - 1) = (B : Int) - 1 := IntWalk.u64_in _ (by omega)
  simp -implicitDefEqProofs (disch := first | assumption | (simp only [wnA]; done) | (simp only [wnA]; omega) | omega | fail) [rc99_9, ro99, wkA, retV, stabOk, dC, ev, fillD, pickCells, putAt, bnd, slD, List.getElem?_cons_zero, List.getElem?_cons_succ, dR.eq_20, Mem.cell, Mem.row, wmA, t2]
  refine closed hp rfl h1 rfl ?_
  simp -implicitDefEqProofs (disch := first | assumption | (simp only [wnA]; done) | (simp only [wnA]; omega) | omega | fail) [wkA, retV, stabOk, dC, ev, fillD, pickCells, putAt, bnd, slD, List.getElem?_cons_zero, List.getElem?_cons_succ, dR.eq_20, Mem.cell, Mem.row, wmA, t2, wB]
  refine closed hp rfl h2 rfl ?_
  simp -implicitDefEqProofs (disch := first | assumption | (simp only [wnA]; done) | (simp only [wnA]; omega) | omega | fail) [wkA, retV, stabOk, dC, ev, fillD, pickCells, putAt, bnd, slD, List.getElem?_cons_zero, List.getElem?_cons_succ, dR.eq_20, Mem.cell, Mem.row, wmA, t2, wB, wk, wB1]
  have hlen := digs_64 hB2 ha
  refine LoopW_of (fun n ts' m' => ∃ (u : Nat) (t : List UInt8) (cs : List Value), u = n ∧ u ≤ a ∧ digs B a = digs B u ++ t ∧ Old m m' ∧ m'.get i = .own cs 185 ∧ cs.length = 65 ∧ cs.drop (65 - t.length) = t.map byteV ∧
      ts' 1 = .int .u64 (u : Int) ∧ ts' 3 = .bool neg ∧ ts' 4 = .bool false ∧ ts' 10 = .slice none 0 0 ∧ ts' 12 = .pointer (some ⟨i, 0, none⟩) ∧ ts' 13 = .int .i64 ((65 - t.length : Nat) : Int) ∧ ts' 14 = .int .u64 (k : Int) ∧ ts' 15 = .int .u64 (B : Int) ∧ ts' 16 = .int .u64 ((B : Int) - 1)) a ?_ ?_
  · exact ⟨a, [], zs, rfl, Nat.le_refl _, by simp, ho, hz, hzl, by simp [hzl], by simp [t1], by simp [t3], by simp [t4], by simp [t10], by simp [t12], by simp [t13], by simp, by simp, by simp⟩
  · rintro n ts' m' K ⟨u, t, cs, rfl, hua, hd, o', g', hl, hdr, s1, s3, s4, s10, s12, s13, s14, s15, s16⟩ hK
    have hdl := congrArg List.length hd
    simp only [List.length_append] at hdl
    have hpos := digs_pos B u
    have htl : t.length < 65 := by omega
    have eI : ((65 - t.length : Nat) : Int) - 1 = ((65 - t.length - 1 : Nat) : Int) := by omega
    have wI : IntKind.i64.wrap (((65 - t.length : Nat) : Int) - 1) = ((65 - t.length - 1 : Nat) : Int) := by rw [eI]; exact w64 (by omega)
    have hin : (0 : Int) ≤ ((65 - t.length - 1 : Nat) : Int) ∧ ((65 - t.length - 1 : Nat) : Int) < 65 := by omega
    have hu64 : u < 18446744073709551616 := by omega
    generalize hJ : 65 - t.length - 1 = J at *
    have hmod : u % B < 36 := Nat.lt_of_lt_of_le (Nat.mod_lt _ (by omega)) (by omega)
    have kA : dBin .and (.int .u64 (u : Int)) (.int .u64 ((B : Int) - 1)) = some (.int .u64 ((u % B : Nat) : Int)) := by
      have := dAnd (u := u) (k := k) hu64 (by omega) (z := (B : Int) - 1) (by rw [hB]; have : 0 < 2 ^ k := Nat.pow_pos (by omega); omega)
      rw [← hB] at this; exact this
    have kS : dBin .shr (.int .u64 (u : Int)) (.int .u64 (k : Int)) = some (.int .u64 ((u / B : Nat) : Int)) := by
      have := dShr (u := u) (k := k) (by omega) (z := (k : Int)) rfl
      rw [← hB] at this; exact this
    have kX := digitsS_at ⟨u % B, hmod⟩
    simp only [digitsS] at kX
    have m0 : (0 : Int) ≤ ((u % B : Nat) : Int) := by omega
    have hcoe : (((u % B : Nat) : Int)).toNat = u % B := Int.toNat_natCast _
    have hJl : J + 1 ≤ cs.length := by omega
    simp -implicitDefEqProofs (disch := first | assumption | (simp only [wnA]; done) | (simp only [wnA]; omega) | omega | fail) [rc99_1, wkA, retV, stabOk, dC, ev, fillD, pickCells, putAt, bnd, slD, List.getElem?_cons_zero, List.getElem?_cons_succ, dR.eq_20, Mem.cell, Mem.row, wmA, s1, s15]
    by_cases hBu : B ≤ u
    · generalize hM : u % B = M at *
      simp -implicitDefEqProofs (disch := first | assumption | (simp only [wnA]; done) | (simp only [wnA]; omega) | omega | fail) [rc99_0, wkA, retV, stabOk, dC, ev, fillD, pickCells, putAt, bnd, slD, List.getElem?_cons_zero, List.getElem?_cons_succ, dR.eq_20, Mem.cell, Mem.row, wmA, s1, s12, s13, s14, s15, s16, hBu, wI, kA, kS, kX, m0, hin]
      refine SK_st (i := i) (o := J) (by simp [wkA, retV, stabOk, dC, ev, fillD, pickCells, putAt, bnd, slD, List.getElem?_cons_zero, List.getElem?_cons_succ, dR.eq_20]) (e := 185) g' (by omega) (by simp [wkA, retV, stabOk, dC, ev, fillD, pickCells, putAt, bnd, slD, List.getElem?_cons_zero, List.getElem?_cons_succ, dR.eq_20]) (by simp [wkA, retV, stabOk, dC, ev, fillD, pickCells, putAt, bnd, slD, List.getElem?_cons_zero, List.getElem?_cons_succ, dR.eq_20, oneC]) ?_
      simp -implicitDefEqProofs (disch := first | assumption | (simp only [wnA]; done) | (simp only [wnA]; omega) | omega | fail) [wkA, retV, stabOk, dC, ev, fillD, pickCells, putAt, bnd, slD, List.getElem?_cons_zero, List.getElem?_cons_succ, dR.eq_20, Mem.cell, Mem.row, wmA, s1, s14, kS]
      have hpa := putAt_ahead (c := digC M) hl htl hdr
      rw [hJ] at hpa
      have hpe : putAt cs J [.int .u8 (digC M).toNat] = cs.take J ++ .int .u8 (digC M).toNat :: cs.drop (J + 1) := by simp [putAt]
      rw [← hpe]
      refine hK (u / B) _ _ (Nat.div_lt_self (by omega) (by omega)) ⟨u / B, digC M :: t, _, rfl, Nat.le_trans (Nat.div_le_self _ _) hua, ?_, o'.set hi _, by simp, hpa.1, hpa.2, by simp, by simp [s3], by simp [s4], by simp [s10], by simp [s12], ?_, by simp [s14], by simp [s15], by simp [s16]⟩
      · rw [hd, digs_ge (by omega) hBu, hM]; simp
      · have : 65 - (digC M :: t).length = J := by simp; omega
        rw [this]; simp
    · have hub : u < 36 := by omega
      have kY := digitsS_at ⟨u, hub⟩
      simp only [digitsS] at kY
      have m1' : (0 : Int) ≤ (u : Int) := by omega
      simp -implicitDefEqProofs (disch := first | assumption | (simp only [wnA]; done) | (simp only [wnA]; omega) | omega | fail) [rc99_2, wkA, retV, stabOk, dC, ev, fillD, pickCells, putAt, bnd, slD, List.getElem?_cons_zero, List.getElem?_cons_succ, dR.eq_20, Mem.cell, Mem.row, wmA, s1, s12, s13, s14, s15, s16, hBu, wI, kY, m1', hin]
      refine SK_st (i := i) (o := J) (by simp [wkA, retV, stabOk, dC, ev, fillD, pickCells, putAt, bnd, slD, List.getElem?_cons_zero, List.getElem?_cons_succ, dR.eq_20]) (e := 185) g' (by omega) (by simp [wkA, retV, stabOk, dC, ev, fillD, pickCells, putAt, bnd, slD, List.getElem?_cons_zero, List.getElem?_cons_succ, dR.eq_20]) (by simp [wkA, retV, stabOk, dC, ev, fillD, pickCells, putAt, bnd, slD, List.getElem?_cons_zero, List.getElem?_cons_succ, dR.eq_20, oneC]) ?_
      have hpa := putAt_ahead (c := digC u) hl htl hdr
      rw [hJ] at hpa
      have hpe : putAt cs J [.int .u8 (digC u).toNat] = cs.take J ++ .int .u8 (digC u).toNat :: cs.drop (J + 1) := by simp [putAt]
      have hfull : digs B a = digC u :: t := by rw [hd, digs_lt (by omega)]; simp
      simp -implicitDefEqProofs (disch := first | assumption | (simp only [wnA]; done) | (simp only [wnA]; omega) | omega | fail) [wkA, retV, stabOk, dC, ev, fillD, pickCells, putAt, bnd, slD, List.getElem?_cons_zero, List.getElem?_cons_succ, dR.eq_20, Mem.cell, Mem.row, wmA]
      rw [← hpe]
      obtain ⟨p1, p2⟩ := hpa
      generalize putAt cs J [.int .u8 (digC u).toNat] = cs2 at *
      rw [hfull] at hlen hq
      have hJ2 : 65 - (digC u :: t).length = J := by simp; omega
      have hlen2 : t.length + 1 ≤ 22 := by simpa using hlen
      cases neg with
      | false =>
        have eL : (0 : Int) ≤ (J : Int) ∧ (J : Int) ≤ 65 := by omega
        have eJ0 : J ≠ 0 := by omega
        have eJ65 : J ≠ 65 := by omega
        have hrow : (cs2.drop J).take (65 - J) = (digC u :: t).map byteV := by rw [← hJ2, p2]; exact List.take_of_length_le (by simp; omega)
        simp -implicitDefEqProofs (disch := first | assumption | (simp only [wnA]; done) | (simp only [wnA]; omega) | omega | fail) [rc99_8, rc99_7, rc99_6, wkA, retV, stabOk, dC, ev, fillD, pickCells, putAt, bnd, slD, List.getElem?_cons_zero, List.getElem?_cons_succ, dR.eq_20, Mem.cell, Mem.row, wmA, s3, s4, s10, s12, p1, eL]
        rw [bstr_tail (e := 185) (t := digC u :: t) (by simp) p1 hJ2 (by simp; omega) p2]
        simp -implicitDefEqProofs (disch := first | assumption | (simp only [wnA]; done) | (simp only [wnA]; omega) | omega | fail) [wkA, retV, stabOk, dC, ev, fillD, pickCells, putAt, bnd, slD, List.getElem?_cons_zero, List.getElem?_cons_succ, dR.eq_20, Mem.cell, Mem.row, wmA, s10]
        have := hq _ (o'.set hi (.own cs2 185))
        simpa [sgn] using this
      | true =>
        have hlt2 : (digC u :: t).length < 65 := by simp; omega
        have eJ1 : (J : Int) - 1 = ((J - 1 : Nat) : Int) := by omega
        have wJ : IntKind.i64.wrap ((J : Int) - 1) = ((J - 1 : Nat) : Int) := by rw [eJ1]; exact w64 (by omega)
        have hin2 : (0 : Int) ≤ ((J - 1 : Nat) : Int) ∧ ((J - 1 : Nat) : Int) < 65 := by omega
        have hp3 := putAt_ahead (c := 45) p1 hlt2 p2
        rw [hJ2] at hp3
        obtain ⟨p3, p4⟩ := hp3
        generalize hK2 : J - 1 = J3 at *
        have hpe3 : putAt cs2 J3 [.int .u8 (45 : UInt8).toNat] = cs2.take J3 ++ .int .u8 45 :: cs2.drop (J3 + 1) := by simp [putAt]
        simp -implicitDefEqProofs (disch := first | assumption | (simp only [wnA]; done) | (simp only [wnA]; omega) | omega | fail) [rc99_8, wkA, retV, stabOk, dC, ev, fillD, pickCells, putAt, bnd, slD, List.getElem?_cons_zero, List.getElem?_cons_succ, dR.eq_20, Mem.cell, Mem.row, wmA, s3, s4, s10, s12, wJ, hin2]
        refine SK_st (i := i) (o := J3) (by simp [wkA, retV, stabOk, dC, ev, fillD, pickCells, putAt, bnd, slD, List.getElem?_cons_zero, List.getElem?_cons_succ, dR.eq_20]) (e := 185) (cs := cs2) (by simp) (by omega) (by simp [wkA, retV, stabOk, dC, ev, fillD, pickCells, putAt, bnd, slD, List.getElem?_cons_zero, List.getElem?_cons_succ, dR.eq_20]) (by simp [wkA, retV, stabOk, dC, ev, fillD, pickCells, putAt, bnd, slD, List.getElem?_cons_zero, List.getElem?_cons_succ, dR.eq_20, oneC]) ?_
        simp -implicitDefEqProofs (disch := first | assumption | (simp only [wnA]; done) | (simp only [wnA]; omega) | omega | fail) [wkA, retV, stabOk, dC, ev, fillD, pickCells, putAt, bnd, slD, List.getElem?_cons_zero, List.getElem?_cons_succ, dR.eq_20, Mem.cell, Mem.row, wmA]
        rw [← hpe3]
        generalize putAt cs2 J3 [.int .u8 (45 : UInt8).toNat] = cs4 at *
        have eL : (0 : Int) ≤ (J3 : Int) ∧ (J3 : Int) ≤ 65 := by omega
        have eJ0 : J3 ≠ 0 := by omega
        have eJ65 : J3 ≠ 65 := by omega
        have hJ4 : 65 - (45 :: digC u :: t).length = J3 := by simp; omega
        simp -implicitDefEqProofs (disch := first | assumption | (simp only [wnA]; done) | (simp only [wnA]; omega) | omega | fail) [rc99_7, rc99_6, wkA, retV, stabOk, dC, ev, fillD, pickCells, putAt, bnd, slD, List.getElem?_cons_zero, List.getElem?_cons_succ, dR.eq_20, Mem.cell, Mem.row, wmA, s3, s4, s10, s12, p3, eL]
        rw [bstr_tail (e := 185) (t := 45 :: digC u :: t) (by simp) p3 hJ4 (by simp; omega) p4]
        simp -implicitDefEqProofs (disch := first | assumption | (simp only [wnA]; done) | (simp only [wnA]; omega) | omega | fail) [wkA, retV, stabOk, dC, ev, fillD, pickCells, putAt, bnd, slD, List.getElem?_cons_zero, List.getElem?_cons_succ, dR.eq_20, Mem.cell, Mem.row, wmA, s10]
        have := hq _ ((o'.set hi (.own cs2 185)).set hi (.own cs4 185))
        simpa [sgn] using this
theorem c_fmtBits {w0 : World} {m : Mem} {B k a : Nat} {u : Int} {neg : Bool} {Q : Value → Mem → Prop} (hp : Part L0 m) (hB : B = 2 ^ k) (hk : 3 ≤ k ∧ k ≤ 5) (hne : B ≠ 10) (ha : a < 18446744073709551616)
    (hu : u = if neg then IntKind.u64.wrap (0 - (a : Int)) else (a : Int))
    (h1 : outIs (.bool true) (callE tab (xCall xs) Tryz.prog 50 119 [.int .i64 (B : Int)] L0) = true)
    (h2 : outIs (.int .i64 (k : Int)) (callE tab (xCall xs) Tryz.prog 50 120 [.int .u64 (B : Int)] L0) = true)
    (hq : ∀ m', Old m m' → Q (.tuple ⟨[.slice none 0 0, .string ⟨⟨sgn neg ++ digs B a⟩⟩]⟩) m') :
    AbC Tryz.prog w0 99 [.slice none 0 0, .int .u64 u, .int .i64 (B : Int), .bool neg, .bool false] m Q := by
  refine AbC_fn ok99 (by simp) ?_
  have hB2 : 8 ≤ B := by rw [hB]; calc 8 = 2 ^ 3 := rfl
    _ ≤ 2 ^ k := Nat.pow_le_pow_right (by omega) hk.1
  have hB3 : B ≤ 32 := by rw [hB]; calc 2 ^ k ≤ 2 ^ 5 := Nat.pow_le_pow_right (by omega) hk.2
    _ = 32 := rfl
  have f1 : (2 : Int) ≤ B := by omega
  have f2 : (B : Int) ≠ 10 := by omega
  have f3 : (B : Int) ≤ 36 := by omega
  simp -implicitDefEqProofs (disch := first | assumption | (simp only [wnA]; done) | (simp only [wnA]; omega) | omega | fail) [rc99, ro99, wkA, retV, stabOk, dC, ev, fillD, pickCells, putAt, bnd, slD, List.getElem?_cons_zero, List.getElem?_cons_succ, dR.eq_20, Mem.cell, Mem.row, wmA, ltF f1, beqF f2, gtF f3]
  have ho : ∀ E, Old m (m.push E) := fun E => (Old.refl m).push _
  cases neg with
  | false =>
    have hu' : u = (a : Int) := by simpa using hu
    subst hu'
    simp -implicitDefEqProofs (disch := first | assumption | (simp only [wnA]; done) | (simp only [wnA]; omega) | omega | fail) [rc99_10, wkA, retV, stabOk, dC, ev, fillD, pickCells, putAt, bnd, slD, List.getElem?_cons_zero, List.getElem?_cons_succ, dR.eq_20, Mem.cell, Mem.row, wmA]
    exact c_fmtTail (k := k) ((ho _).part hp) (ho _) (Nat.le_refl m.next) (by simp) (by simp -implicitDefEqProofs (disch := first | assumption | (simp only [wnA]; done) | (simp only [wnA]; omega) | omega | fail) [Mem.cell, Mem.row, wmA]; rfl) (by simp) hB hk hB2 hB3 ha (by simp [frA_at]) (by simp [frA_at]) (by simp [frA_at]) (by simp [frA_at]) (by simp) (by simp) (by simp) h1 h2 hq
  | true =>
    have hu' : u = IntKind.u64.wrap (0 - (a : Int)) := by simpa using hu
    have hw : IntKind.u64.wrap (0 - u) = (a : Int) := by
      subst hu'
      simp only [IntKind.wrap, IntKind.bits, IntKind.signed]
      simp
      omega
    have hw' : IntKind.u64.wrap (-u) = (a : Int) := by simpa using hw
    simp -implicitDefEqProofs (disch := first | assumption | (simp only [wnA]; done) | (simp only [wnA]; omega) | omega | fail) [rc99_10, wkA, retV, stabOk, dC, ev, fillD, pickCells, putAt, bnd, slD, List.getElem?_cons_zero, List.getElem?_cons_succ, dR.eq_20, Mem.cell, Mem.row, wmA, hw, hw']
    exact c_fmtTail (k := k) ((ho _).part hp) (ho _) (Nat.le_refl m.next) (by simp) (by simp -implicitDefEqProofs (disch := first | assumption | (simp only [wnA]; done) | (simp only [wnA]; omega) | omega | fail) [Mem.cell, Mem.row, wmA]; rfl) (by simp) hB hk hB2 hB3 ha (by simp [frA_at]) (by simp [frA_at]) (by simp [frA_at]) (by simp [frA_at]) (by simp) (by simp) (by simp) h1 h2 hq
end Go.Proofs.YthmhappejchilaaGreatDoor.Ab

set_option linter.unusedVariables false
set_option linter.unusedSimpArgs false
namespace Go.Proofs.YthmhappejchilaaGreatDoor.Ab
open Go Go.RowKit
set_option maxHeartbeats 4000000
set_option maxRecDepth 100000
def slaW (m : Mem) (len sz : Nat) (v : Value) (lo hi : Option Value) : Option Value := match v with
  | .pointer (some ⟨i, o, none⟩) => match m.get i with
    | .own cs _ => if o + len * sz ≤ cs.length ∧ 0 < len * sz then slW sz (.slice (some ⟨i, o, none⟩) len sz) lo hi else none
    | _ => none
  | _ => none
theorem slW_slD {ts : Fr} {len sz i o : Nat} {lo hi : Option Operand} : slW sz (.slice (some ⟨i, o, none⟩) len sz) (lo.map (ev ts)) (hi.map (ev ts)) = slD sz ts lo hi i o len := by
  have e1 : ∀ a b, bnd (fun k => if k = 0 then Value.slice (some ⟨i, o, none⟩) len sz else if k = 1 then (lo.map (ev ts)).getD undef else (hi.map (ev ts)).getD undef) ((lo.map (ev ts)).map fun _ => .tmp 1) a b = bnd ts lo a b := fun a b => by cases lo <;> rfl
  have e2 : ∀ a b, bnd (fun k => if k = 0 then Value.slice (some ⟨i, o, none⟩) len sz else if k = 1 then (lo.map (ev ts)).getD undef else (hi.map (ev ts)).getD undef) ((hi.map (ev ts)).map fun _ => .tmp 2) a b = bnd ts hi a b := fun a b => by cases hi <;> rfl
  unfold slW
  rw [dR.eq_20]
  simp only [ev, if_true, slD, e1, e2]
theorem dR_sla {ts : Fr} {m : Mem} {len sz : Nat} {x : Operand} {lo hi : Option Operand} : dR ts m (.sla len sz x lo hi) = slaW m len sz (ev ts x) (lo.map (ev ts)) (hi.map (ev ts)) := by
  rw [dR.eq_21]
  unfold slaW
  generalize ev ts x = v
  split
  · rename_i i o
    simp only []
    cases m.get i <;> simp only []
    rw [slW_slD]
  · rename_i hne
    split
    · rename_i i o
      exact (hne i o rfl).elim
    · rfl
theorem SK_fn {P : Program} {w0 : World} {ts : Fr} {m : Mem} {R : Value → Mem → Prop} {f : FuncId} {args : List Operand} : SK P w0 (.c (.fn f args)) ts m R = AbC P w0 f (args.map (ev ts)) m R := rfl
def slsW (s : Value) (lo hi : Option Value) : Option Value :=
  dR (fun k => if k = 0 then s else if k = 1 then lo.getD undef else hi.getD undef) ⟨0, fun _ => .dead⟩ (.sls (.tmp 0) (lo.map fun _ => .tmp 1) (hi.map fun _ => .tmp 2))
theorem dR_sls {ts : Fr} {m : Mem} {x : Operand} {lo hi : Option Operand} : dR ts m (.sls x lo hi) = slsW (ev ts x) (lo.map (ev ts)) (hi.map (ev ts)) := by
  cases lo <;> cases hi <;> rfl
theorem wkB : type_of% (And.intro @AbW_skip (And.intro @AbW_run (And.intro @AbW_fork (And.intro @AbW_seq (And.intro @AbW_condR (And.intro @condR_true (And.intro @condR_false (And.intro @AbW_block (And.intro @AbW_loop (And.intro @AbW_jumps (And.intro @AbW_label (And.intro @AbW_goto (And.intro @jumpA_normal (And.intro @jumpA_exit (And.intro @jumpA_ret (And.intro @jumpA_goto (And.intro @dEq_bool (And.intro @dEq_int (And.intro @dEq_str (And.intro @dEq_ptr0 (And.intro @dEq_ptr1 (And.intro @dEq_ptr2 (And.intro @dEq_nil (And.intro @dEq_niln (And.intro @dEq_nnil (And.intro @AbW_exit (And.intro @AbW_ret (And.intro @thenA_normal (And.intro @thenA_exit (And.intro @thenA_ret (And.intro @inBlockA_normal (And.intro @inBlockA_exit (And.intro @inBlockA_ret (And.intro @bodyA_normalR (And.intro @bodyA_retR (And.intro @RS_nil (And.intro @RS_consG (And.intro @guardR_true (And.intro @guardR_false (And.intro @contK_at (And.intro @SK_rr (And.intro @bindR_some (And.intro @SK_a (And.intro @SK_fn (And.intro @wantD_none (And.intro @wantD_some (And.intro @wantB_bool (And.intro @wantB_undef (And.intro @dR_lenl (And.intro @dR_ia (And.intro @dR_b2s (And.intro @slen_sl (And.intro @dR.eq_1 (And.intro @dR.eq_2 (And.intro @dR.eq_3 (And.intro @dR.eq_4 (And.intro @dR.eq_5 (And.intro @dR.eq_6 (And.intro @dR.eq_7 (And.intro @dR.eq_8 (And.intro @dR.eq_9 (And.intro @dR.eq_10 (And.intro @dR.eq_11 (And.intro @dR.eq_12 (And.intro @dR.eq_13 (And.intro @dR.eq_14 (And.intro @dR.eq_16 (And.intro @dR.eq_17 (And.intro @dR.eq_18 (And.intro @dR_sls (And.intro @dR_sla (And.intro @dR.eq_22 (And.intro @dR.eq_24 (And.intro @dR.eq_25 (And.intro @dR.eq_26 (And.intro @dR.eq_27 (And.intro @dR.eq_28 (And.intro @dR.eq_29 (And.intro @dR.eq_30 (And.intro @dR.eq_32 (And.intro @dR.eq_33 (And.intro @dR.eq_34 (And.intro @dR.eq_35 (And.intro @dR.eq_36 (And.intro @dR.eq_37 (And.intro @dR.eq_39 (And.intro @frA_at (And.intro @cellsV_agg (And.intro @cellsV_bool (And.intro @cellsV_int (And.intro @cellsV_str (And.intro @cellsV_ptr (And.intro @cellsV_sl (And.intro @cellsV_slV (And.intro @cellsV_map (And.intro @cellsV_iface (And.intro @cellsV_nili (And.intro @cellsV_func (And.intro @cellsV_nilf (And.intro @lenV_sl (And.intro @lenV_str (And.intro @oneC_slV (And.intro @thenA_goto (And.intro @inBlockA_goto (@dR_sl))))))))))))))))))))))))))))))))))))))))))))))))))))))))))))))))))))))))))))))))))))))))))))))))))))))))) := And.intro @AbW_skip (And.intro @AbW_run (And.intro @AbW_fork (And.intro @AbW_seq (And.intro @AbW_condR (And.intro @condR_true (And.intro @condR_false (And.intro @AbW_block (And.intro @AbW_loop (And.intro @AbW_jumps (And.intro @AbW_label (And.intro @AbW_goto (And.intro @jumpA_normal (And.intro @jumpA_exit (And.intro @jumpA_ret (And.intro @jumpA_goto (And.intro @dEq_bool (And.intro @dEq_int (And.intro @dEq_str (And.intro @dEq_ptr0 (And.intro @dEq_ptr1 (And.intro @dEq_ptr2 (And.intro @dEq_nil (And.intro @dEq_niln (And.intro @dEq_nnil (And.intro @AbW_exit (And.intro @AbW_ret (And.intro @thenA_normal (And.intro @thenA_exit (And.intro @thenA_ret (And.intro @inBlockA_normal (And.intro @inBlockA_exit (And.intro @inBlockA_ret (And.intro @bodyA_normalR (And.intro @bodyA_retR (And.intro @RS_nil (And.intro @RS_consG (And.intro @guardR_true (And.intro @guardR_false (And.intro @contK_at (And.intro @SK_rr (And.intro @bindR_some (And.intro @SK_a (And.intro @SK_fn (And.intro @wantD_none (And.intro @wantD_some (And.intro @wantB_bool (And.intro @wantB_undef (And.intro @dR_lenl (And.intro @dR_ia (And.intro @dR_b2s (And.intro @slen_sl (And.intro @dR.eq_1 (And.intro @dR.eq_2 (And.intro @dR.eq_3 (And.intro @dR.eq_4 (And.intro @dR.eq_5 (And.intro @dR.eq_6 (And.intro @dR.eq_7 (And.intro @dR.eq_8 (And.intro @dR.eq_9 (And.intro @dR.eq_10 (And.intro @dR.eq_11 (And.intro @dR.eq_12 (And.intro @dR.eq_13 (And.intro @dR.eq_14 (And.intro @dR.eq_16 (And.intro @dR.eq_17 (And.intro @dR.eq_18 (And.intro @dR_sls (And.intro @dR_sla (And.intro @dR.eq_22 (And.intro @dR.eq_24 (And.intro @dR.eq_25 (And.intro @dR.eq_26 (And.intro @dR.eq_27 (And.intro @dR.eq_28 (And.intro @dR.eq_29 (And.intro @dR.eq_30 (And.intro @dR.eq_32 (And.intro @dR.eq_33 (And.intro @dR.eq_34 (And.intro @dR.eq_35 (And.intro @dR.eq_36 (And.intro @dR.eq_37 (And.intro @dR.eq_39 (And.intro @frA_at (And.intro @cellsV_agg (And.intro @cellsV_bool (And.intro @cellsV_int (And.intro @cellsV_str (And.intro @cellsV_ptr (And.intro @cellsV_sl (And.intro @cellsV_slV (And.intro @cellsV_map (And.intro @cellsV_iface (And.intro @cellsV_nili (And.intro @cellsV_func (And.intro @cellsV_nilf (And.intro @lenV_sl (And.intro @lenV_str (And.intro @oneC_slV (And.intro @thenA_goto (And.intro @inBlockA_goto (@dR_sl))))))))))))))))))))))))))))))))))))))))))))))))))))))))))))))))))))))))))))))))))))))))))))))))))))))))
abbrev HL := List (Option Nat × Ent)
def ids (l : HL) (i : Nat) : Prop := ∃ p ∈ l, p.1 = some i
def Apart (p q : Option Nat × Ent) : Prop := ∀ i, p.1 = some i → q.1 ≠ some i
theorem Apart.symm {p q : Option Nat × Ent} (h : Apart p q) : Apart q p := fun i hq hp => h i hp hq
theorem Part.kV {L : LM} {V : Nat → Prop} {m m' : Mem} (h : Part L m) (k : Keeps V m m') (hV : ∀ i, i < L.n → V i) : Part L m' := by
  refine ⟨Nat.le_trans h.1 k.1, fun i => ?_⟩
  rcases h.2 i with h1 | ⟨cs, h1, h2, h3⟩
  · exact .inl h1
  · have hi : i < L.n := by
      rcases Nat.lt_or_ge i L.n with h' | h'
      · exact h'
      · rw [LM.get_ge (by omega)] at h1; cases h1
    exact .inr ⟨cs, h1, by rw [k.2 i (Nat.lt_of_lt_of_le hi h.1) (hV i hi)]; exact h2, h3⟩
def byH (ob : Option Nat) (l : List UInt8) : Option Nat × Ent := (ob, .own (l.map byteV) 5)
/-- Since m0 what lies in V was kept; the blocks of l lie apart from one another and from V. -/
structure Sep (m0 : Mem) (V : Nat → Prop) (m : Mem) (l : HL) : Prop where
  k : Keeps V m0 m
  vl : ∀ i, V i → i < m0.next
  gl : ∀ i, i < L0.n → V i
  pt : Part L0 m
  ok : ∀ p ∈ l, ∀ i, p.1 = some i → m.get i = p.2 ∧ i < m.next ∧ ¬ V i
  ap : l.Pairwise Apart
section
variable {m0 m m' : Mem} {V : Nat → Prop} {l l' A A' B : HL}
theorem Sep.step (h : Sep m0 V m l) (k : Keeps V m m') (ok : ∀ p ∈ l', ∀ i, p.1 = some i → m'.get i = p.2 ∧ i < m'.next ∧ ¬ V i) (ap : l'.Pairwise Apart) : Sep m0 V m' l' :=
  ⟨h.k.trans k, h.vl, h.gl, h.pt.kV k h.gl, ok, ap⟩
theorem Sep.n (h : Sep m0 V m l) : m0.next ≤ m.next := h.k.1
theorem Sep.self (h : Sep m0 V m l) : Sep m V m l := ⟨Keeps.refl V m, fun i hi => Nat.lt_of_lt_of_le (h.vl i hi) h.n, h.gl, h.pt, h.ok, h.ap⟩
theorem Sep.tr (h : Sep m0 V m l) (h2 : Sep m V m' l') : Sep m0 V m' l' := ⟨h.k.trans h2.k, h.vl, h.gl, h2.pt, h2.ok, h2.ap⟩
theorem Sep.mem (h : Sep m0 V m l) {i : Nat} {E : Ent} (hm : (some i, E) ∈ l) : m.get i = E := (h.ok _ hm i rfl).1
theorem Sep.get (h : Sep m0 V m l) (n : Nat) {i : Nat} {E : Ent} (hn : l[n]? = some (some i, E)) : m.get i = E := h.mem (List.mem_of_getElem? hn)
theorem Sep.lt (h : Sep m0 V m l) (n : Nat) {i : Nat} {E : Ent} (hn : l[n]? = some (some i, E)) : i < m.next := (h.ok _ (List.mem_of_getElem? hn) i rfl).2.1
theorem Sep.nv (h : Sep m0 V m l) (n : Nat) {i : Nat} {E : Ent} (hn : l[n]? = some (some i, E)) : ¬ V i := (h.ok _ (List.mem_of_getElem? hn) i rfl).2.2
theorem Sep.il (h : Sep m0 V m l) {i : Nat} (hi : ids l i) : i < m.next ∧ ¬ V i := by
  obtain ⟨p, hp, he⟩ := hi
  exact (h.ok p hp i he).2
theorem Sep.ne (h : Sep m0 V m l) {j n : Nat} (hjn : j ≠ n) {p q : Option Nat × Ent} (hj : l[j]? = some p) (hn : l[n]? = some q) : Apart p q := by
  obtain ⟨a, rfl⟩ := List.getElem?_eq_some_iff.1 hj
  obtain ⟨b, rfl⟩ := List.getElem?_eq_some_iff.1 hn
  have := List.pairwise_iff_getElem.1 h.ap
  rcases Nat.lt_or_gt_of_ne hjn with h1 | h1
  · exact this _ _ a b h1
  · exact (this _ _ b a h1).symm
theorem apart_set (h : l.Pairwise Apart) {n : Nat} {x : Option Nat × Ent} (hx : ∀ k p, k ≠ n → l[k]? = some p → Apart p x) : (l.set n x).Pairwise Apart := by
  rw [List.pairwise_iff_getElem] at h ⊢
  intro i j hi hj hij
  simp only [List.length_set] at hi hj
  rw [List.getElem_set, List.getElem_set]
  split
  · split
    · omega
    · exact (hx j _ (by omega) (List.getElem?_eq_getElem hj)).symm
  · split
    · exact hx i _ (by omega) (List.getElem?_eq_getElem hi)
    · exact h i j hi hj hij
theorem Sep.upd (h : Sep m0 V m l) (n : Nat) {p0 x : Option Nat × Ent} (hn : l[n]? = some p0) (k : Keeps V m m') (hx : ∀ i, x.1 = some i → m'.get i = x.2 ∧ i < m'.next ∧ ¬ V i) (hxo : ∀ i, x.1 = some i → p0.1 = some i ∨ m.next ≤ i)
    (ho : ∀ i, i < m.next → p0.1 ≠ some i → m'.get i = m.get i) : Sep m0 V m' (l.set n x) := by
  refine h.step k (fun p hp i hi => ?_) (apart_set h.ap fun j p hj hp i hi hxi => ?_)
  · obtain ⟨j, hj⟩ := List.mem_iff_getElem?.1 hp
    rw [List.getElem?_set] at hj
    split at hj
    · split at hj
      · cases hj; exact hx i hi
      · cases hj
    · rename_i hnj
      have h1 := h.ok p (List.mem_of_getElem? hj) i hi
      have h2 := h.ne (fun e => hnj e.symm) hj hn i hi
      exact ⟨by rw [ho i h1.2.1 h2]; exact h1.1, Nat.lt_of_lt_of_le h1.2.1 k.1, h1.2.2⟩
  · rcases hxo i hxi with h1 | h1
    · exact h.ne hj hp hn i hi h1
    · have := (h.ok p (List.mem_of_getElem? hp) i hi).2.1
      omega
theorem Sep.set (h : Sep m0 V m l) (n : Nat) {i : Nat} {E0 : Ent} (hn : l[n]? = some (some i, E0)) (E : Ent) : Sep m0 V (m.set i E) (l.set n (some i, E)) := by
  refine h.upd n hn ((Keeps.refl V m).set (fun _ => h.nv n hn) E) (fun j hj => ?_) (fun j hj => .inl hj) fun j hj hne => Mem.set_other _ _ fun e => hne (by rw [e])
  cases hj
  exact ⟨Mem.set_same _ _ _, h.lt n hn, h.nv n hn⟩
theorem Sep.nul (h : Sep m0 V m l) (n : Nat) (E : Ent) : Sep m0 V m (l.set n (none, E)) := by
  refine h.step (Keeps.refl V m) (fun p hp i hi => ?_) (apart_set h.ap fun j p hj hp i hi hxi => by cases hxi)
  rcases List.mem_or_eq_of_mem_set hp with h1 | h1
  · exact h.ok p h1 i hi
  · subst h1; cases hi
theorem Sep.vn (h : Sep m0 V m l) {i : Nat} (hi : m.next ≤ i) : ¬ V i := fun hv => by have := h.vl i hv; have := h.n; omega
theorem Sep.repl (h : Sep m0 V m l) (n : Nat) {ob : Option Nat} {E0 : Ent} (hn : l[n]? = some (ob, E0)) (E : Ent) : Sep m0 V ((m.kill ob).push E) (l.set n (some m.next, E)) := by
  refine h.upd n hn (((Keeps.refl V m).kill fun i hi _ => (h.ok _ (List.mem_of_getElem? hn) i hi).2.2).push E) (fun j hj => ?_) (fun j hj => .inr (by cases hj; exact Nat.le_refl _)) fun j hj hne => ?_
  · cases hj
    exact ⟨Mem.push_at _ _ rfl, by simp [Mem.kill_nxt], h.vn (Nat.le_refl _)⟩
  · rw [Mem.push_old _ _ (by simpa [Mem.kill_nxt] using hj), Mem.kill_other _ hne]
theorem Sep.old (h : Sep m0 V m l) (o : Old m m') : Sep m0 V m' l :=
  h.step o.keeps (fun p hp i hi => let h1 := h.ok p hp i hi; ⟨by rw [o.2 i h1.2.1]; exact h1.1, Nat.lt_of_lt_of_le h1.2.1 o.1, h1.2.2⟩) h.ap
theorem Sep.new (h : Sep m0 V m l) {ob : Option Nat} {E : Ent} (o : Old m m') (hb : ∀ i, ob = some i → m.next ≤ i ∧ i < m'.next ∧ m'.get i = E) : Sep m0 V m' ((ob, E) :: l) := by
  have h1 := h.old o
  refine h.step o.keeps (fun p hp i hi => ?_) (List.pairwise_cons.2 ⟨fun q hq i hi hqi => ?_, h.ap⟩)
  · rcases List.mem_cons.1 hp with rfl | hp
    · have := hb i hi
      exact ⟨this.2.2, this.2.1, h.vn this.1⟩
    · exact h1.ok p hp i hi
  · have := (h.ok q hq i hqi).2.1
    have := (hb i hi).1
    omega
theorem Sep.non (h : Sep m0 V m l) (E : Ent) : Sep m0 V m ((none, E) :: l) := h.new (Old.refl m) fun i hi => by cases hi
theorem Sep.push (h : Sep m0 V m l) (E : Ent) : Sep m0 V (m.push E) ((some m.next, E) :: l) :=
  h.new ((Old.refl m).push E) fun i hi => by cases hi; exact ⟨Nat.le_refl _, by simp, Mem.push_at _ _ rfl⟩
theorem Sep.sub (h : Sep m0 V m l) (hs : l'.Sublist l) : Sep m0 V m l' := ⟨h.k, h.vl, h.gl, h.pt, fun p hp => h.ok p (hs.subset hp), h.ap.sublist hs⟩
theorem Sep.tl {p : Option Nat × Ent} (h : Sep m0 V m (p :: l)) : Sep m0 V m l := h.sub (List.sublist_cons_self _ _)
theorem Sep.del (h : Sep m0 V m l) (n : Nat) : Sep m0 V m (l.eraseIdx n) := h.sub (List.eraseIdx_sublist _ _)
/-- Some of them, in another order. -/
theorem Sep.sel (h : Sep m0 V m l) (is : List Nat) (hd : is.Nodup) : Sep m0 V m (is.filterMap fun k => l[k]?) := by
  refine ⟨h.k, h.vl, h.gl, h.pt, fun p hp => ?_, ?_⟩
  · obtain ⟨k, _, hk⟩ := List.mem_filterMap.1 hp
    exact h.ok p (List.mem_of_getElem? hk)
  · rw [List.pairwise_filterMap]
    exact hd.imp fun {a b} hab p hp q hq => h.ne hab hp hq
theorem Sep.perm (h : Sep m0 V m l) (p : l.Perm l') : Sep m0 V m l' := ⟨h.k, h.vl, h.gl, h.pt, fun q hq => h.ok q (p.mem_iff.2 hq), (p.pairwise_iff Apart.symm).1 h.ap⟩
theorem Sep.fr (h : Sep m0 V m (A ++ B)) : Sep m (fun i => V i ∨ ids B i) m A := by
  have hp := List.pairwise_append.1 h.ap
  refine ⟨Keeps.refl _ m, fun i hi => ?_, fun i hi => .inl (h.gl i hi), h.pt, fun p hm i hi => ?_, hp.1⟩
  · rcases hi with hi | ⟨q, hq, he⟩
    · exact Nat.lt_of_lt_of_le (h.vl i hi) h.n
    · exact (h.ok q (List.mem_append_right _ hq) i he).2.1
  · have h1 := h.ok p (List.mem_append_left _ hm) i hi
    refine ⟨h1.1, h1.2.1, fun hv => hv.elim h1.2.2 fun ⟨q, hq, he⟩ => hp.2.2 p hm q hq i hi he⟩
theorem Sep.un (h : Sep m0 V m (A ++ B)) (h2 : Sep m (fun i => V i ∨ ids B i) m' A') : Sep m0 V m' (A' ++ B) := by
  have hp := List.pairwise_append.1 h.ap
  refine h.step (h2.k.mono fun i _ hi => .inl hi) (fun p hm i hi => ?_) (List.pairwise_append.2 ⟨h2.ap, hp.2.1, fun p hpA q hqB i hi hqi => ?_⟩)
  · rcases List.mem_append.1 hm with hm | hm
    · have h1 := h2.ok p hm i hi
      exact ⟨h1.1, h1.2.1, fun hv => h1.2.2 (.inl hv)⟩
    · have h1 := h.ok p (List.mem_append_right _ hm) i hi
      exact ⟨by rw [h2.k.2 i h1.2.1 (.inr ⟨p, hm, hi⟩)]; exact h1.1, Nat.lt_of_lt_of_le h1.2.1 h2.n, h1.2.2⟩
  · exact (h2.ok p hpA i hi).2.2 (.inr ⟨q, hqB, hqi⟩)
theorem Sep.slO (h : Sep m0 V m l) (n : Nat) {ob : Option Nat} {cs : List Value} {e sz k : Nat} (hn : l[n]? = some (ob, .own cs e)) (hl : cs.length = k * sz) (hp : ob = none → k = 0) : SlO m e sz ob cs k := by
  refine ⟨hl, ?_⟩
  cases ob with
  | none => exact hp rfl
  | some b => exact ⟨h.get n hn, h.lt n hn⟩
theorem Sep.rd (h : Sep m0 V m l) (n : Nat) {ob : Option Nat} {cs : List Value} {e sz k : Nat} (hn : l[n]? = some (ob, .own cs e)) (hl : cs.length = k * sz) (hp : ob = none → k = 0) {X : Nat → Prop} (hX : ∀ i, ob = some i → X i) : RdV X m sz (slV ob k sz) cs k :=
  ⟨(h.slO n hn hl hp).read, fun b hb => by
    rw [blk_slV] at hb
    subst hb
    exact ⟨h.lt n hn, hX b rfl⟩⟩
theorem Sep.slm (h : Sep m0 V m l) {ob : Option Nat} {cs : List Value} {e sz k : Nat} (hm : (ob, Ent.own cs e) ∈ l) (hl : cs.length = k * sz) (hp : ob = none → k = 0) : SlO m e sz ob cs k := by
  obtain ⟨n, hn⟩ := List.mem_iff_getElem?.1 hm
  exact h.slO n hn hl hp
theorem Sep.rdm (h : Sep m0 V m l) {ob : Option Nat} {cs : List Value} {e sz k : Nat} (hm : (ob, Ent.own cs e) ∈ l) (hl : cs.length = k * sz) (hp : ob = none → k = 0) {X : Nat → Prop} (hX : ∀ i, ob = some i → X i) : RdV X m sz (slV ob k sz) cs k := by
  obtain ⟨n, hn⟩ := List.mem_iff_getElem?.1 hm
  exact h.rd n hn hl hp hX
theorem RdV.sep {sz n : Nat} {v : Value} {cs : List Value} (r : RdV V m0 sz v cs n) (h : Sep m0 V m l) : RdV V m sz v cs n := r.keep h.k
theorem Sep.of (hp : Part L0 m) (hv : ∀ i, V i → i < m.next) (hg : ∀ i, i < L0.n → V i) : Sep m V m [] := ⟨Keeps.refl V m, hv, hg, hp, fun p hp => (List.not_mem_nil hp).elim, .nil⟩
theorem SlR.txt {m : Mem} {v : Value} {l : List UInt8} (h : SlR m 1 v (l.map byteV) l.length) : bstr m v = some (.string ⟨⟨l⟩⟩) := by
  rcases h.2 with ⟨h0, h1⟩ | ⟨i, o, L, rfl, h2, h3, h4⟩
  · have : l = [] := List.length_eq_zero_iff.1 h0
    subst this
    rcases h1 with rfl | rfl <;> rfl
  · rw [Nat.mul_one] at h3 h4
    have hr : m.row i o l.length = some (l.map byteV) := by
      simp only [Mem.row, h2]
      rw [if_pos h3, h4]
    simp only [Ab.bstr, hr, bytesOf_mapN]
theorem Sep.ofOld (hp : Part L0 m) : Sep m (fun i => i < m.next) m [] := ⟨Keeps.refl _ m, fun _ h => h, fun i hi => Nat.lt_of_lt_of_le hi hp.1, hp, fun p hp => (List.not_mem_nil hp).elim, .nil⟩
theorem Sep.toOld (h : Sep m (fun i => i < m.next) m' l) : Old m m' := ⟨h.k.1, fun i hi => h.k.2 i hi hi⟩
theorem Sep.fresh (h : Sep m (fun i => i < m.next) m' l) (n : Nat) {ob : Option Nat} {E : Ent} (hn : l[n]? = some (ob, E)) : ∀ i, ob = some i → m.next ≤ i ∧ i < m'.next ∧ m'.get i = E := fun i hi => by
  have := h.ok _ (List.mem_of_getElem? hn) i hi
  exact ⟨Nat.not_lt.1 this.2.2, this.2.1, this.1⟩
theorem RdV.o {X : Nat → Prop} {sz n : Nat} {v : Value} {cs : List Value} (r : RdV X m sz v cs n) : RdV (fun i => i < m.next) m sz v cs n := ⟨r.sl, fun b hb => ⟨(r.bl b hb).1, (r.bl b hb).1⟩⟩
theorem RdV.old {X : Nat → Prop} {sz n : Nat} {v : Value} {cs : List Value} (r : RdV X m sz v cs n) (o : Old m m') : RdV X m' sz v cs n := r.keep o.keeps
theorem RdV.nil {X : Nat → Prop} {sz : Nat} : RdV X m sz (.slice none 0 0) [] 0 := ⟨⟨by simp, .inl ⟨rfl, .inl rfl⟩⟩, fun b hb => by cases hb⟩
section
variable {P : Program} {w0 : World} {ts : Fr} {R : Value → Mem → Prop}
theorem SK_stS (h : Sep m0 V m l) (q : Nat) {n i o : Nat} {p x : Operand} {cs cs' vs : List Value} {e : TypeId} (hq : l[q]? = some (some i, .own cs e)) (hp : ev ts p = .pointer (some ⟨i, o, none⟩)) (hv : cellsV (ev ts x) = vs) (h1 : o + n ≤ cs.length) (h2 : vs.length = n) (h3 : vs.all oneC = true)
    (hM : putAt cs o vs = cs') (hR : ∀ M, Sep m0 V M (l.set q (some i, .own cs' e)) → M.next = m.next → R undef M) : SK P w0 (.e (.st n p x)) ts m R :=
  SK_stK hp (h.get q hq) hv h1 h2 h3 hM (hR _ (h.set q hq _) rfl)
/-- More is put behind an own slice. -/
theorem SK_apS (h : Sep m0 V m l) (q : Nat) {e sz bytes n k : Nat} {ob : Option Nat} {cs ys : List Value} {x y : Operand} (hq : l[q]? = some (ob, .own cs e)) (hx : ev ts x = slV ob n sz) (hl0 : cs.length = n * sz) (hp : ob = none → n = 0) (hy : elemsV m sz (ev ts y) = some ys) (hk : lenV (ev ts y) = k)
    (h1 : ys.all oneC = true) (h2 : (n + k) * bytes ≤ 140737488355328) (h3 : n + k ≤ maxLen) (hl : ys.length = k * sz)
    (hR : ∀ ob' M, Sep m0 V M (l.set q (ob', .own (cs ++ ys) e)) → (ob' = none → n + k = 0) → m.next ≤ M.next → R (slV ob' (n + k) sz) M) : SK P w0 (.e (.app e sz bytes x y)) ts m R := by
  have hO := h.slO q hq hl0 hp
  by_cases hpos : 0 < k
  · exact SK_ap hO hx hy hk hpos h1 h2 h3 hl (hR _ _ (h.repl q hq _) (fun h => by cases h) (by simp [Mem.kill_nxt]))
  · have hk0 : k = 0 := by omega
    subst hk0
    have : ys = [] := by simpa using hl
    subst this
    have e1 : l.set q (ob, .own (cs ++ []) e) = l := by
      rw [List.append_nil]
      apply List.ext_getElem?
      intro j
      rw [List.getElem?_set]
      split
      · rename_i hj
        subst hj
        rw [hq]
        obtain ⟨hlt, _⟩ := List.getElem?_eq_some_iff.1 hq
        rw [if_pos hlt]
      · rfl
    exact SK_app0 hx hy hk (hR ob m (by rw [e1]; exact h) hp (Nat.le_refl _))
/-- A slice is copied into one that is new. -/
theorem SK_nwS (h : Sep m0 V m l) {e sz bytes k : Nat} {ys : List Value} {x y : Operand} (hx : ev ts x = .slice none 0 0) (hy : elemsV m sz (ev ts y) = some ys) (hk : lenV (ev ts y) = k)
    (h1 : ys.all oneC = true) (h2 : k * bytes ≤ 140737488355328) (h3 : k ≤ maxLen) (hl : ys.length = k * sz)
    (hR : ∀ ob M, Sep m0 V M ((ob, .own ys e) :: l) → (ob = none → k = 0) → m.next ≤ M.next → R (slV ob k sz) M) : SK P w0 (.e (.app e sz bytes x y)) ts m R := by
  refine SK_app_new hx hy hk h1 h2 h3 hl fun ob m' hO hn hb ho => hR ob m' (h.new ⟨hn, ho⟩ fun i hi => ?_) (fun hb => by subst hb; exact hO.2) hn
  subst hi
  exact ⟨hb i rfl, hO.lt, hO.2.1⟩
theorem SK_cvm {e : TypeId} {x : Operand} {i o n z : Nat} {cs : List Value} (hx : ev ts x = .slice (some ⟨i, o, none⟩) n z) (hm : m.get i = .own cs e) (hR : R (.slice (some ⟨i, o, none⟩) n z) m) : SK P w0 (.e (.cvm e x)) ts m R := by
  simp only [SK, dE, hx, hm, if_true]
  exact hR
theorem SK_alS (h : Sep m0 V m l) {z : List Value} {e : TypeId} (hR : ∀ b M, Sep m0 V M ((some b, .own z e) :: l) → b = m.next → M.next = m.next + 1 → R (.pointer (some ⟨b, 0, none⟩)) M) : SK P w0 (.e (.al z e)) ts m R := hR _ _ (h.push _) rfl rfl
theorem SK_bxS (h : Sep m0 V m l) {x : Operand} {e : TypeId} {cs : List Value} (hv : cellsV (ev ts x) = cs) (hR : ∀ b M, Sep m0 V M ((some b, .own cs e) :: l) → b = m.next → M.next = m.next + 1 → R (.pointer (some ⟨b, 0, none⟩)) M) : SK P w0 (.e (.bx e x)) ts m R := by
  subst hv
  exact hR _ _ (h.push _) rfl rfl
theorem SK_mkS (h : Sep m0 V m l) {e bytes n : Nat} {zero : Value} {x y : Operand} (hx : ev ts x = .int .i64 (n : Int)) (hy : ev ts y = .int .i64 (n : Int)) (hb : bytes * n ≤ 140737488355328) (hm : n ≤ maxLen) (hR : ∀ b M, Sep m0 V M ((some b, .own (List.replicate n zero) e) :: l) → b = m.next → M.next = m.next + 1 → R (.slice (some ⟨b, 0, none⟩) n 1) M) : SK P w0 (.e (.mks e bytes zero x y)) ts m R := by
  simp only [SK, dE, hx, hy]
  rw [if_pos ⟨by omega, by omega, by omega, by omega⟩]
  simp only [Int.toNat_natCast]
  exact hR _ _ (h.push _) rfl rfl
theorem SK_bslS (h : Sep m0 V m l) {z : List Value} {e : TypeId} {sz len : Nat} {parts : List (Nat × Nat × Operand)} {cs : List Value} (hf : fillD ts parts z = some cs) (hl : cs.length = len * sz) (hR : ∀ b M, Sep m0 V M ((some b, .own cs e) :: l) → b = m.next → M.next = m.next + 1 → R (.slice (some ⟨b, 0, none⟩) len sz) M) : SK P w0 (.e (.bsl e sz len z parts)) ts m R := by
  rw [SK_bsl hf hl]
  exact hR _ _ (h.push _) rfl rfl
end
end
end Go.Proofs.YthmhappejchilaaGreatDoor.Ab

set_option linter.unusedVariables false
set_option linter.unusedSimpArgs false
namespace Go.Proofs.YthmhappejchilaaGreatDoor.Ab
open Go Go.RowKit
set_option maxHeartbeats 4000000
set_option maxRecDepth 100000
noncomputable def trailL (d : List UInt8) (crc : Bool) : List UInt8 := if crc then [UInt8.ofNat (crcN d / 256), UInt8.ofNat (crcN d % 256)] else [UInt8.ofNat (chkN d)]
def trN (crc : Bool) : Nat := if crc then 2 else 1
theorem trail_len (d : List UInt8) (crc : Bool) : (trailL d crc).length = trN crc := by cases crc <;> rfl
theorem ofN8 {z : Nat} (h : z < 256) : (UInt8.ofNat z).toNat = z := by simp; omega
theorem c_trailer {w0 : World} {m : Mem} {v : Value} {d : List UInt8} {crc : Bool} {Q : Value → Mem → Prop} (hv : SlR m 1 v (d.map byteV) d.length) (hL : d.length ≤ maxLen)
    (hq : Q (.slice (some ⟨m.next, 0, none⟩) (trN crc) 1) (m.push (.own ((trailL d crc).map byteV) 5))) : AbC Tryz.prog w0 55 [v, .bool crc] m Q := by
  refine AbC_fn ok55 (by simp) ?_
  cases crc with
  | false =>
    simp -implicitDefEqProofs (disch := first | assumption | (simp only [wnA]; done) | (simp only [wnA]; omega) | omega | fail) [rc55, ro55, wkA, retV, stabOk, dC, ev, fillD, pickCells, putAt, bnd, slD, List.getElem?_cons_zero, List.getElem?_cons_succ, dR.eq_20, Mem.cell, Mem.row, wmA]
    refine c_Chk hv hL ?_
    have hlt := chkN_lt d
    simp only [trailL, trN, byteV, List.map_cons, List.map_nil, Bool.false_eq_true, if_false] at hq
    rw [ofN8 hlt] at hq
    simp -implicitDefEqProofs (disch := first | assumption | (simp only [wnA]; done) | (simp only [wnA]; omega) | omega | fail) [wkA, retV, stabOk, dC, ev, fillD, pickCells, putAt, bnd, slD, List.getElem?_cons_zero, List.getElem?_cons_succ, dR.eq_20, Mem.cell, Mem.row, wmA]
    rw [SK_bsl (cs := [.int .u8 (chkN d : Nat)]) (by simp [fillD, pickCells, wkA, retV, stabOk, dC, ev, fillD, pickCells, putAt, bnd, slD, List.getElem?_cons_zero, List.getElem?_cons_succ, dR.eq_20]) (by simp)]
    simp -implicitDefEqProofs (disch := first | assumption | (simp only [wnA]; done) | (simp only [wnA]; omega) | omega | fail) [wkA, retV, stabOk, dC, ev, fillD, pickCells, putAt, bnd, slD, List.getElem?_cons_zero, List.getElem?_cons_succ, dR.eq_20, Mem.cell, Mem.row, wmA]
    exact hq
  | true =>
    simp -implicitDefEqProofs (disch := first | assumption | (simp only [wnA]; done) | (simp only [wnA]; omega) | omega | fail) [rc55, ro55, rc55_0, wkA, retV, stabOk, dC, ev, fillD, pickCells, putAt, bnd, slD, List.getElem?_cons_zero, List.getElem?_cons_succ, dR.eq_20, Mem.cell, Mem.row, wmA]
    refine c_Crc hv hL ?_
    have hlt := crcN_lt d
    have q1 : dBin .shr (.int .u16 (crcN d : Nat)) (.int .u64 8) = some (.int .u16 ((crcN d / 256 : Nat) : Int)) := by
      have h1 := shI_eq (op := .shr) (k := .u16) (k' := .u64) (a := Int.ofNat (crcN d)) (b := Int.ofNat 8) (v := .int .u16 (Int.ofNat (Nat.shiftRight (crcN d) 8))) (by
        simp only [shI]
        rw [Nat.ble_eq_true_of_le (show 8 ≤ kBits .u16 by simp only [kBits]; omega)])
      have h2 : Nat.shiftRight (crcN d) 8 = crcN d / 256 := Nat.shiftRight_eq_div_pow (crcN d) 8
      rw [h2] at h1
      exact h1
    have w1 : IntKind.u8.wrap ((crcN d / 256 : Nat) : Int) = ((crcN d / 256 : Nat) : Int) := w8 (by omega)
    have w2 : IntKind.u8.wrap (crcN d : Int) = ((crcN d % 256 : Nat) : Int) := by
      simp only [IntKind.wrap, IntKind.bits, IntKind.signed]
      simp
    simp only [trailL, trN, byteV, List.map_cons, List.map_nil, if_true] at hq
    rw [ofN8 (show crcN d / 256 < 256 by omega), ofN8 (show crcN d % 256 < 256 by omega)] at hq
    generalize crcN d / 256 = a at *
    generalize crcN d % 256 = b at *
    generalize crcN d = c at *
    simp -implicitDefEqProofs (disch := first | assumption | (simp only [wnA]; done) | (simp only [wnA]; omega) | omega | fail) [rc55_0, wkA, retV, stabOk, dC, ev, fillD, pickCells, putAt, bnd, slD, List.getElem?_cons_zero, List.getElem?_cons_succ, dR.eq_20, Mem.cell, Mem.row, wmA, q1, w1, w2]
    rw [SK_bsl (cs := [.int .u8 (a : Nat), .int .u8 (b : Nat)]) (by simp [fillD, pickCells, wkA, retV, stabOk, dC, ev, fillD, pickCells, putAt, bnd, slD, List.getElem?_cons_zero, List.getElem?_cons_succ, dR.eq_20, w1, w2]) (by simp)]
    simp -implicitDefEqProofs (disch := first | assumption | (simp only [wnA]; done) | (simp only [wnA]; omega) | omega | fail) [wkA, retV, stabOk, dC, ev, fillD, pickCells, putAt, bnd, slD, List.getElem?_cons_zero, List.getElem?_cons_succ, dR.eq_20, Mem.cell, Mem.row, wmA]
    exact hq
noncomputable def blkL (no : UInt8) (d : List UInt8) (crc : Bool) : List UInt8 := (if d.length = 128 then 1 else 2) :: no :: (255 - no) :: (d ++ trailL d crc)
theorem blk_len (no : UInt8) (d : List UInt8) (crc : Bool) : (blkL no d crc).length = 3 + d.length + trN crc := by
  simp only [blkL, List.length_cons, List.length_append, trail_len]; omega
theorem xor255 : ∀ n : Fin 256, 255 ^^^ n.val = 255 - n.val := by decide +kernel
theorem com8 (c : UInt8) : IntKind.u8.wrap ((((if IntKind.u8.signed = true then (-1 : Int) else IntKind.u8.max) % 2 ^ IntKind.u8.bits).toNat ^^^ c.toNat % 2 ^ IntKind.u8.bits : Nat) : Int) = ((255 - c).toNat : Int) := by
  have hc := c.toNat_lt
  have e1 : ((if IntKind.u8.signed = true then (-1 : Int) else IntKind.u8.max) % 2 ^ IntKind.u8.bits).toNat = 255 := by rfl
  have e2 : c.toNat % 2 ^ IntKind.u8.bits = c.toNat := Nat.mod_eq_of_lt (by show c.toNat < 256; omega)
  have e3 := xor255 ⟨c.toNat, by omega⟩
  have e4 : (255 - c).toNat = 255 - c.toNat := by
    rw [UInt8.toNat_sub]
    have : (255 : UInt8).toNat = 255 := rfl
    omega
  simp only at e3
  rw [e1, e2, e3, e4, w8 (by omega)]
/-- A block is made of 128 or 1024 bytes. -/
theorem c_bMake {w0 : World} {X : Nat → Prop} {m : Mem} {v : Value} {no : UInt8} {d : List UInt8} {crc : Bool} {Q : Value → Mem → Prop} (hp : Part L0 m) (hr : RdV X m 1 v (d.map byteV) d.length) (hL : d.length = 128 ∨ d.length = 1024)
    (hq : ∀ m' b, Old m m' → m.next ≤ b → b < m'.next → m'.get b = .own ((blkL no d crc).map byteV) 5 → Q (.tuple ⟨[.slice (some ⟨b, 0, none⟩) (blkL no d crc).length 1, .bool true]⟩) m') :
    AbC Tryz.prog w0 32 [.agg ⟨[.int .u8 (no.toNat : Int), v]⟩, .bool crc] m Q := by
  refine AbC_fn ok32 (by simp) ?_
  obtain ⟨lead, hlead⟩ : ∃ lead : UInt8, lead = if d.length = 128 then 1 else 2 := ⟨_, rfl⟩
  have hcv := com8 no
  have h0 := Sep.ofOld hp
  have h1 := h0.push (.own [.int .u8 (no.toNat : Int), v] 50)
  have hrr := hr.o
  have key : ∀ (fr : Fr), fr 1 = .bool crc → fr 2 = .pointer (some ⟨m.next, 0, none⟩) → fr 6 = .int .u8 (lead.toNat : Int) →
      AbW Tryz.prog w0 rc32_0 (bodyA [.mv (.tmp 4), .mv (.tmp 5)] Q) fr (m.push (.own [.int .u8 (no.toNat : Int), v] 50)) := by
    intro fr t1 t2 t6
    obtain ⟨m1, hm1⟩ : ∃ m1, m.push (.own [.int .u8 (no.toNat : Int), v] 50) = m1 := ⟨_, rfl⟩
    have n1 : m1.next = m.next + 1 := by subst hm1; rfl
    rw [hm1] at h1 ⊢
    clear hm1
    have g1 := h1.get 0 rfl
    simp -implicitDefEqProofs (disch := first | assumption | (simp only [wnA]; done) | (simp only [wnA]; omega) | omega | fail) [rc32_0, wkA, retV, stabOk, dC, ev, fillD, pickCells, putAt, bnd, slD, List.getElem?_cons_zero, List.getElem?_cons_succ, dR.eq_20, Mem.cell, Mem.row, wmA, t1, t2, t6, hcv, g1]
    refine SK_bslS h1 (cs := [lead, no, 255 - no].map byteV) (by simp [fillD, pickCells, wkA, retV, stabOk, dC, ev, fillD, pickCells, putAt, bnd, slD, List.getElem?_cons_zero, List.getElem?_cons_succ, dR.eq_20, t6, hcv, byteV, g1]) (by simp) fun b m2 h2 hb n2 => ?_
    have g2 := h2.get 1 rfl
    simp -implicitDefEqProofs (disch := first | assumption | (simp only [wnA]; done) | (simp only [wnA]; omega) | omega | fail) [wkA, retV, stabOk, dC, ev, fillD, pickCells, putAt, bnd, slD, List.getElem?_cons_zero, List.getElem?_cons_succ, dR.eq_20, Mem.cell, Mem.row, wmA, t1, t2, t6, hcv, g2]
    have hr2 := (hrr.sep h2).sl
    refine SK_apS h2 0 (n := 3) (k := d.length) (ys := d.map byteV) rfl (by simp [wkA, retV, stabOk, dC, ev, fillD, pickCells, putAt, bnd, slD, List.getElem?_cons_zero, List.getElem?_cons_succ, dR.eq_20, slV]) (by simp) (by simp) (by simp [wkA, retV, stabOk, dC, ev, fillD, pickCells, putAt, bnd, slD, List.getElem?_cons_zero, List.getElem?_cons_succ, dR.eq_20]; exact hr2.elems) (by simp [wkA, retV, stabOk, dC, ev, fillD, pickCells, putAt, bnd, slD, List.getElem?_cons_zero, List.getElem?_cons_succ, dR.eq_20]; exact hr2.lenV) (byteV_oneC _) (by omega) (by unfold maxLen; omega) (by simp) fun ob3 m3 h3 hn3 _ => ?_
    have g3 := h3.get 1 rfl
    have hr3 := (hrr.sep h3).sl
    simp -implicitDefEqProofs (disch := first | assumption | (simp only [wnA]; done) | (simp only [wnA]; omega) | omega | fail) [wkA, retV, stabOk, dC, ev, fillD, pickCells, putAt, bnd, slD, List.getElem?_cons_zero, List.getElem?_cons_succ, dR.eq_20, Mem.cell, Mem.row, wmA, t1, t2, t6, hcv, g3]
    refine c_trailer hr3 (by unfold maxLen; omega) ?_
    have h4 := h3.push (.own ((trailL d crc).map byteV) 5)
    obtain ⟨m4, hm4⟩ : ∃ m4, m3.push (.own ((trailL d crc).map byteV) 5) = m4 := ⟨_, rfl⟩
    rw [hm4] at h4 ⊢
    obtain ⟨b4, hb4⟩ : ∃ b4, m3.next = b4 := ⟨_, rfl⟩
    rw [hb4] at h4 ⊢
    have hl4 := trail_len d crc
    have hr4 := (h4.slO 0 (k := trN crc) (sz := 1) rfl (by simp [hl4]) (fun h => by cases h)).read
    have htr : 1 ≤ trN crc ∧ trN crc ≤ 2 := by cases crc <;> decide
    simp -implicitDefEqProofs (disch := first | assumption | (simp only [wnA]; done) | (simp only [wnA]; omega) | omega | fail) [wkA, retV, stabOk, dC, ev, fillD, pickCells, putAt, bnd, slD, List.getElem?_cons_zero, List.getElem?_cons_succ, dR.eq_20, Mem.cell, Mem.row, wmA, t1, t2, t6, hcv]
    refine SK_apS h4 1 (n := 3 + d.length) (k := trN crc) (ys := (trailL d crc).map byteV) rfl (by simp [wkA, retV, stabOk, dC, ev, fillD, pickCells, putAt, bnd, slD, List.getElem?_cons_zero, List.getElem?_cons_succ, dR.eq_20]) (by simp; omega) hn3 (by simp [wkA, retV, stabOk, dC, ev, fillD, pickCells, putAt, bnd, slD, List.getElem?_cons_zero, List.getElem?_cons_succ, dR.eq_20]; exact hr4.elems) (by simp [wkA, retV, stabOk, dC, ev, fillD, pickCells, putAt, bnd, slD, List.getElem?_cons_zero, List.getElem?_cons_succ, dR.eq_20, lenV]) (byteV_oneC _) (by omega) (by unfold maxLen; omega) (by simp [hl4]) fun ob5 m5 h5 hn5 _ => ?_
    simp -implicitDefEqProofs (disch := first | assumption | (simp only [wnA]; done) | (simp only [wnA]; omega) | omega | fail) [wkA, retV, stabOk, dC, ev, fillD, pickCells, putAt, bnd, slD, List.getElem?_cons_zero, List.getElem?_cons_succ, dR.eq_20, Mem.cell, Mem.row, wmA]
    cases ob5 with
    | none => exact absurd (hn5 rfl) (by omega)
    | some b5 =>
      have e5 : [lead, no, 255 - no].map byteV ++ d.map byteV ++ (trailL d crc).map byteV = (blkL no d crc).map byteV := by
        rw [blkL, ← hlead]; simp
      have h5 := h5
      have g5 := h5.get 1 rfl
      rw [e5] at g5
      have := hq m5 b5 h5.toOld (by have := h5.nv 1 rfl; omega) (h5.lt 1 rfl) g5
      rw [blk_len] at this
      exact this
  rcases hL with hL | hL
  · rw [if_pos hL] at hlead
    subst hlead
    have hs := hr.sl.slen
    rw [hL] at hs
    simp -implicitDefEqProofs (disch := first | assumption | (simp only [wnA]; done) | (simp only [wnA]; omega) | omega | fail) [rc32, ro32, wkA, retV, stabOk, dC, ev, fillD, pickCells, putAt, bnd, slD, List.getElem?_cons_zero, List.getElem?_cons_succ, dR.eq_20, Mem.cell, Mem.row, wmA, hs]
    exact key _ (by simp [frA_at]) (by simp) (by first | rfl | simp)
  · rw [if_neg (by omega)] at hlead
    subst hlead
    have hs := hr.sl.slen
    rw [hL] at hs
    simp -implicitDefEqProofs (disch := first | assumption | (simp only [wnA]; done) | (simp only [wnA]; omega) | omega | fail) [rc32, ro32, wkA, retV, stabOk, dC, ev, fillD, pickCells, putAt, bnd, slD, List.getElem?_cons_zero, List.getElem?_cons_succ, dR.eq_20, Mem.cell, Mem.row, wmA, hs]
    exact key _ (by simp [frA_at]) (by simp) (by first | rfl | simp)
end Go.Proofs.YthmhappejchilaaGreatDoor.Ab

set_option linter.unusedVariables false
set_option linter.unusedSimpArgs false
namespace Go.Proofs.YthmhappejchilaaGreatDoor.Ab
open Go Go.RowKit
set_option maxHeartbeats 4000000
set_option maxRecDepth 100000
theorem b8 (c : UInt8) (k : Nat) (hk : k < 256) : ((c.toNat : Int) == (k : Int)) = decide (c = UInt8.ofNat k) := by
  by_cases h : c = UInt8.ofNat k
  · subst h
    have : (UInt8.ofNat k).toNat = k := by simp; omega
    simp [this]
  · have : c.toNat ≠ k := fun e => h (by rw [← e]; simp)
    simp [h]; omega
theorem c8 (c d : UInt8) : ((c.toNat : Int) == (d.toNat : Int)) = decide (c = d) := by
  have := b8 c d.toNat d.toNat_lt
  simpa using this
theorem c8n (c d : UInt8) : ((c.toNat : Int) != (d.toNat : Int)) = decide (c ≠ d) := by
  rw [bne, c8]; simp
def bsize (c : UInt8) (crc : Bool) : Nat := if c = 1 then 131 + trN crc else if c = 2 then 1027 + trN crc else 0
theorem c_Size {w0 : World} {m : Mem} {c : UInt8} {crc : Bool} {Q : Value → Mem → Prop} (hq : Q (.int .i64 (bsize c crc : Nat)) m) : AbC Tryz.prog w0 84 [.int .u8 (c.toNat : Int), .bool crc] m Q := by
  refine AbC_fn ok84 (by simp) ?_
  have e1 : ((c.toNat : Int) == 1) = decide (c = 1) := b8 c 1 (by omega)
  have e2 : ((c.toNat : Int) == 2) = decide (c = 2) := b8 c 2 (by omega)
  unfold bsize at hq
  by_cases h1 : c = 1
  · rw [if_pos h1] at hq
    cases crc
    all_goals
      simp -implicitDefEqProofs (disch := first | assumption | (simp only [wnA]; done) | (simp only [wnA]; omega) | omega | fail) [rc84, ro84, rc84_1, rc84_0, wkA, retV, stabOk, dC, ev, fillD, pickCells, putAt, bnd, slD, List.getElem?_cons_zero, List.getElem?_cons_succ, dR_sl, Mem.cell, Mem.row, wmA, e1, h1, w64]
      exact hq
  · rw [if_neg h1] at hq
    by_cases h2 : c = 2
    · rw [if_pos h2] at hq
      cases crc
      all_goals
        simp -implicitDefEqProofs (disch := first | assumption | (simp only [wnA]; done) | (simp only [wnA]; omega) | omega | fail) [rc84, ro84, rc84_1, rc84_0, wkA, retV, stabOk, dC, ev, fillD, pickCells, putAt, bnd, slD, List.getElem?_cons_zero, List.getElem?_cons_succ, dR_sl, Mem.cell, Mem.row, wmA, e1, h1, e2, h2, w64]
        exact hq
    · rw [if_neg h2] at hq
      simp -implicitDefEqProofs (disch := first | assumption | (simp only [wnA]; done) | (simp only [wnA]; omega) | omega | fail) [rc84, ro84, wkA, retV, stabOk, dC, ev, fillD, pickCells, putAt, bnd, slD, List.getElem?_cons_zero, List.getElem?_cons_succ, dR_sl, Mem.cell, Mem.row, wmA, e1, h1, e2, h2]
      exact hq
noncomputable def scanF (b : List UInt8) (crc : Bool) : Nat × UInt8 × List UInt8 := match b with
  | [] => (0, 0, [])
  | c :: _ => if bsize c crc = 0 then (1, 0, []) else if 2 < b.length ∧ b.getD 1 0 ≠ 255 - b.getD 2 0 then (1, 0, []) else if b.length < bsize c crc then (0, 0, []) else
    if trailL ((b.drop 3).take (bsize c crc - trN crc - 3)) crc = (b.drop (bsize c crc - trN crc)).take (trN crc) then (2, b.getD 1 0, (b.drop 3).take (bsize c crc - trN crc - 3)) else (1, 0, [])
theorem bsize_cases (c : UInt8) (crc : Bool) : bsize c crc = 0 ∨ bsize c crc = 131 + trN crc ∨ bsize c crc = 1027 + trN crc := by
  unfold bsize
  split
  · exact .inr (.inl rfl)
  · split
    · exact .inr (.inr rfl)
    · exact .inl rfl
theorem scanF_len (b : List UInt8) (crc : Bool) : (scanF b crc).2.2.length ≤ 1024 ∧ ((scanF b crc).1 = 2 → (scanF b crc).2.2.length = 128 ∨ (scanF b crc).2.2.length = 1024) := by
  unfold scanF
  split
  · simp
  · rename_i c r
    split
    · simp
    · split
      · simp
      · split
        · simp
        · split
          · have := bsize_cases c crc
            simp only [List.length_take, List.length_drop]
            refine ⟨?_, fun _ => ?_⟩ <;> omega
          · simp
theorem scanF_st (b : List UInt8) (crc : Bool) : (scanF b crc).1 = 0 ∨ (scanF b crc).1 = 1 ∨ (scanF b crc).1 = 2 := by
  unfold scanF
  split
  · simp
  · split
    · simp
    · split
      · simp
      · split
        · simp
        · split <;> simp
/-- Where the cells of a slice that is read lie. -/
theorem RdV.ex {X : Nat → Prop} {m : Mem} {n : Nat} {v : Value} {cs : List Value} (h : RdV X m 1 v cs n) (hn : 0 < n) : ∃ i o L, v = .slice (some ⟨i, o, none⟩) n 1 ∧ (m.get i).cells? = some L ∧ o + n ≤ L.length ∧ (∀ k, k < n → L[o + k]? = cs[k]?) ∧ i < m.next ∧ X i := by
  obtain ⟨i, o, L, rfl, h2, h3, -, h5⟩ := h.sl.at hn
  obtain ⟨_, h6⟩ := h.sl
  rcases h6 with ⟨h7, _⟩ | ⟨i', o', L', h8, h9, h10, h11⟩
  · omega
  · cases h8
    rw [h2] at h9
    cases h9
    have hb := h.bl i rfl
    exact ⟨i, o, L, rfl, h2, by omega, fun k hk => by rw [← h11, Nat.mul_one, List.getElem?_take, if_pos hk, List.getElem?_drop], hb.1, hb.2⟩
theorem byte_at {b : List UInt8} {k : Nat} (hk : k < b.length) : (b.map byteV)[k]? = some (byteV (b.getD k 0)) := by
  rw [List.getElem?_map, List.getElem?_eq_getElem hk, List.getD_eq_getElem?_getD, List.getElem?_eq_getElem hk]; rfl
theorem SlR.btw {m : Mem} {n : Nat} {v : Value} {cs : List Value} (h : SlR m 1 v cs n) {a b : Nat} (hab : a ≤ b) (hb : b ≤ n) : ∃ v', slW 1 v (some (.int .i64 (a : Nat))) (some (.int .i64 (b : Nat))) = some v' ∧ SlR m 1 v' ((cs.drop a).take (b - a)) (b - a) ∧ (∀ k, blk v' = some k → blk v = some k) := by
  obtain ⟨h1, ⟨rfl, h2⟩ | ⟨i, o, L, rfl, h2, h3, h4⟩⟩ := h
  · have hb0 : b = 0 := by omega
    have ha0 : a = 0 := by omega
    subst hb0 ha0
    rcases h2 with rfl | rfl
    · exact ⟨.slice none 0 0, by simp [slW, dR, ev, bnd], ⟨by simp, .inl ⟨rfl, .inl rfl⟩⟩, fun b hb => hb⟩
    · exact ⟨.slice (some ⟨0, 0, some 0⟩) 0 0, by simp [slW, dR, ev, bnd], ⟨by simp, .inl ⟨rfl, .inr rfl⟩⟩, fun b hb => hb⟩
  · rw [Nat.mul_one] at h1 h3 h4
    by_cases h0 : a = 0
    · subst h0
      refine ⟨.slice (some ⟨i, o, none⟩) b 1, by simp [slW, dR, ev, bnd, slD, hb], ⟨by simp [h1]; omega, .inr ⟨i, o, L, by simp, h2, by omega, ?_⟩⟩, fun b hb => hb⟩
      rw [← h4, List.drop_zero, List.take_take]; congr 1; omega
    · by_cases hn : a = b
      · subst hn
        refine ⟨.slice (some ⟨0, 0, some 0⟩) 0 0, by simp [slW, dR, ev, bnd, slD, h0, hb], ⟨by simp, .inl ⟨by omega, .inr rfl⟩⟩, fun b hb => by simp [blk] at hb⟩
      · refine ⟨.slice (some ⟨i, o + a, none⟩) (b - a) 1, by simp [slW, dR, ev, bnd, slD, h0, hn, hb, hab], ⟨by simp [h1]; omega, .inr ⟨i, o + a, L, rfl, h2, by omega, ?_⟩⟩, fun b hb => hb⟩
        rw [← h4, List.drop_take, List.take_take, List.drop_drop]; congr 1; omega
theorem scanF_eq {b : List UInt8} (crc : Bool) (hb : 0 < b.length) : scanF b crc = (if bsize (b.getD 0 0) crc = 0 then (1, 0, []) else if 2 < b.length ∧ b.getD 1 0 ≠ 255 - b.getD 2 0 then (1, 0, []) else if b.length < bsize (b.getD 0 0) crc then (0, 0, []) else
    if trailL ((b.drop 3).take (bsize (b.getD 0 0) crc - trN crc - 3)) crc = (b.drop (bsize (b.getD 0 0) crc - trN crc)).take (trN crc) then (2, b.getD 1 0, (b.drop 3).take (bsize (b.getD 0 0) crc - trN crc - 3)) else (1, 0, [])) := by
  cases b with
  | nil => simp at hb
  | cons c r => rfl
theorem c_Scan {w0 : World} {X : Nat → Prop} {m : Mem} {v : Value} {b : List UInt8} {crc : Bool} {Q : Value → Mem → Prop} (hp : Part L0 m) (hr : RdV X m 1 v (b.map byteV) b.length) (hL : b.length ≤ 140737488355328)
    (hq : ∀ ob m', Old m m' → (∀ i, ob = some i → m.next ≤ i ∧ i < m'.next ∧ m'.get i = .own ((scanF b crc).2.2.map byteV) 5) → (ob = none → (scanF b crc).2.2 = []) →
      Q (.tuple ⟨[.agg ⟨[.int .u8 ((scanF b crc).2.1.toNat : Int), slV ob (scanF b crc).2.2.length 1]⟩, .int .i64 ((scanF b crc).1 : Nat)]⟩) m') :
    AbC Tryz.prog w0 57 [v, .bool crc] m Q := by
  refine AbC_fn ok57 (by simp) ?_
  have hsl := hr.sl.slen
  have hrr := hr.o
  simp -implicitDefEqProofs (disch := first | assumption | (simp only [wnA]; done) | (simp only [wnA]; omega) | omega | fail) [rc57, ro57, wkA, retV, stabOk, dC, ev, fillD, pickCells, putAt, bnd, slD, List.getElem?_cons_zero, List.getElem?_cons_succ, dR_sl, Mem.cell, Mem.row, wmA]
  have h1 := (Sep.ofOld hp).push (.own [.int .u8 0, .slice none 0 0] 50)
  obtain ⟨m1, hm1⟩ : ∃ m1, m.push (.own [.int .u8 0, .slice none 0 0] 50) = m1 := ⟨_, rfl⟩
  rw [hm1] at h1 ⊢
  clear hm1
  refine JumpW_of (fun x k ts m' => scanF b crc = (if x then 1 else 0, 0, []) ∧ Sep m (fun i => i < m.next) m' [(some m.next, .own [.int .u8 0, .slice none 0 0] 50)] ∧ ts 4 = .pointer (some ⟨m.next, 0, none⟩)) (fun J hJ => ?_) ?_ ?_
  · simp -implicitDefEqProofs (disch := first | assumption | (simp only [wnA]; done) | (simp only [wnA]; omega) | omega | fail) [wkA, retV, stabOk, dC, ev, fillD, pickCells, putAt, bnd, slD, List.getElem?_cons_zero, List.getElem?_cons_succ, dR_sl, Mem.cell, Mem.row, wmA]
    have h2 := h1.push (.own [.int .u8 0, .slice none 0 0] 50)
    obtain ⟨m2, hm2⟩ : ∃ m2, m1.push (.own [.int .u8 0, .slice none 0 0] 50) = m2 := ⟨_, rfl⟩
    obtain ⟨B, hB⟩ : ∃ B, m1.next = B := ⟨_, rfl⟩
    rw [hm2, hB] at h2
    rw [hm2, hB]
    clear hm2 hB
    by_cases hb0 : b.length = 0
    · have hb : b = [] := List.length_eq_zero_iff.1 hb0
      subst hb
      simp -implicitDefEqProofs (disch := first | assumption | (simp only [wnA]; done) | (simp only [wnA]; omega) | omega | fail) [wkA, retV, stabOk, dC, ev, fillD, pickCells, putAt, bnd, slD, List.getElem?_cons_zero, List.getElem?_cons_succ, dR_sl, Mem.cell, Mem.row, wmA, hsl, thenA_goto]
      exact hJ false 0 _ _ ⟨by simp [scanF], h2.tl, by simp⟩
    · have hn0 : 0 < b.length := by omega
      have hs0 := scanF_eq crc hn0
      obtain ⟨i, o, L, e1, e20, e3, e4, e5, -⟩ := hrr.ex hn0
      have e2 : (m2.get i).cells? = some L := by rw [h2.k.2 i e5 e5]; exact e20
      have hc0 : L[o]? = some (byteV (b.getD 0 0)) := (e4 0 hn0).trans (byte_at hn0)
      have hi0 : sidx 1 v (.int .i64 0) = some (.pointer (some ⟨i, o, none⟩)) := by rw [e1]; simpa using sidx_at (b := i) (o := o) (n := b.length) (c := 1) (j := 0) (sz := 1) (k := .i64) hn0
      have hl0 : ((b.length : Int) == 0) = false := beq_eq_false_iff_ne.2 (by omega)
      simp only [byteV] at hc0
      generalize hc : b.getD 0 0 = c at *
      simp -implicitDefEqProofs (disch := first | assumption | (simp only [wnA]; done) | (simp only [wnA]; omega) | omega | fail) [wkA, retV, stabOk, dC, ev, fillD, pickCells, putAt, bnd, slD, List.getElem?_cons_zero, List.getElem?_cons_succ, dR_sl, Mem.cell, Mem.row, wmA, hsl, thenA_goto, hl0, rc57_8, hi0, e2, hc0, getL1 hc0]
      refine c_Size ?_
      have hbs := bsize_cases c crc
      have htr : 1 ≤ trN crc ∧ trN crc ≤ 2 := by cases crc <;> decide
      generalize hz : bsize c crc = z at *
      by_cases hz0 : z = 0
      · have hz0' : ((z : Int) == 0) = true := by simp [hz0]
        rw [if_pos hz0] at hs0
        simp -implicitDefEqProofs (disch := first | assumption | (simp only [wnA]; done) | (simp only [wnA]; omega) | omega | fail) [wkA, retV, stabOk, dC, ev, fillD, pickCells, putAt, bnd, slD, List.getElem?_cons_zero, List.getElem?_cons_succ, dR_sl, Mem.cell, Mem.row, wmA, thenA_goto, hz0']
        exact hJ true 0 _ _ ⟨by simp [hs0], h2.tl, by simp⟩
      · have hz0' : ((z : Int) == 0) = false := by simp [hz0]
        rw [if_neg hz0] at hs0
        by_cases h2l : 2 < b.length
        · have h2l' : (2 : Int) < (b.length : Int) := by omega
          have hc1 : L[o + 1]? = some (byteV (b.getD 1 0)) := (e4 1 (by omega)).trans (byte_at (by omega))
          have hc2 : L[o + 2]? = some (byteV (b.getD 2 0)) := (e4 2 (by omega)).trans (byte_at (by omega))
          have hi1 : sidx 1 v (.int .i64 1) = some (.pointer (some ⟨i, o + 1, none⟩)) := by rw [e1]; simpa using sidx_at (b := i) (o := o) (n := b.length) (c := 1) (j := 1) (sz := 1) (k := .i64) (by omega)
          have hi2 : sidx 1 v (.int .i64 2) = some (.pointer (some ⟨i, o + 2, none⟩)) := by rw [e1]; simpa using sidx_at (b := i) (o := o) (n := b.length) (c := 1) (j := 2) (sz := 1) (k := .i64) (by omega)
          simp only [byteV] at hc1 hc2
          generalize b.getD 1 0 = x at *
          generalize b.getD 2 0 = y at *
          have hy := com8 y
          have hxy := c8n x (255 - y)
          simp -implicitDefEqProofs (disch := first | assumption | (simp only [wnA]; done) | (simp only [wnA]; omega) | omega | fail) [wkA, retV, stabOk, dC, ev, fillD, pickCells, putAt, bnd, slD, List.getElem?_cons_zero, List.getElem?_cons_succ, dR_sl, Mem.cell, Mem.row, wmA, thenA_goto, hz0', rc57_7, hsl, h2l', hi1, hi2, e2, hc1, getL1 hc1, hc2, getL1 hc2, hy, hxy]
          by_cases hne : x = 255 - y
          · rw [if_neg (fun h => h.2 hne)] at hs0
            by_cases hlz : b.length < z
            · have hlz' : (b.length : Int) < (z : Int) := by omega
              rw [if_pos hlz] at hs0
              simp -implicitDefEqProofs (disch := first | assumption | (simp only [wnA]; done) | (simp only [wnA]; omega) | omega | fail) [wkA, retV, stabOk, dC, ev, fillD, pickCells, putAt, bnd, slD, List.getElem?_cons_zero, List.getElem?_cons_succ, dR_sl, Mem.cell, Mem.row, wmA, thenA_goto, hne, rc57_6, hsl, hlz']
              exact hJ false 0 _ _ ⟨by simp [hs0], h2.tl, by simp⟩
            · have hlz' : ¬ (b.length : Int) < (z : Int) := by omega
              rw [if_neg hlz] at hs0
              have e2' := e2
              simp -implicitDefEqProofs (disch := first | assumption | (simp only [wnA]; done) | (simp only [wnA]; omega) | omega | fail) [wkA, retV, stabOk, dC, ev, fillD, pickCells, putAt, bnd, slD, List.getElem?_cons_zero, List.getElem?_cons_succ, dR_sl, Mem.cell, Mem.row, wmA, thenA_goto, hne, rc57_6, hsl, hlz', rc57_5, hi1, e2, hc1, getL1 hc1]
              refine SK_stS h2 0 rfl (o := 0) (vs := [.int .u8 ((255 - y).toNat : Int)]) (cs' := [.int .u8 ((255 - y).toNat : Int), .slice none 0 0]) (by simp [wkA, retV, stabOk, dC, ev, fillD, pickCells, putAt, bnd, slD, List.getElem?_cons_zero, List.getElem?_cons_succ, dR_sl]) (by simp [wkA, retV, stabOk, dC, ev, fillD, pickCells, putAt, bnd, slD, List.getElem?_cons_zero, List.getElem?_cons_succ, dR_sl, e2, hc1, getL1 hc1, hne]) (by simp) rfl rfl rfl fun m3 h3 n3 => ?_
              have g3 := h3.get 0 rfl
              have e23 : (m3.get i).cells? = some L := by rw [h3.k.2 i e5 e5]; exact e20
              simp -implicitDefEqProofs (disch := first | assumption | (simp only [wnA]; done) | (simp only [wnA]; omega) | omega | fail) [wkA, retV, stabOk, dC, ev, fillD, pickCells, putAt, bnd, slD, List.getElem?_cons_zero, List.getElem?_cons_succ, dR_sl, Mem.cell, Mem.row, wmA]
              refine c_trailer (d := []) (RdV.nil (X := X)).sl (by simp [maxLen]) ?_
              have h4 := h3.push (.own ((trailL [] crc).map byteV) 5)
              obtain ⟨m4, hm4⟩ : ∃ m4, m3.push (.own ((trailL [] crc).map byteV) 5) = m4 := ⟨_, rfl⟩
              rw [hm4] at h4 ⊢
              clear hm4
              have h4 := h4.tl
              obtain ⟨K, hK⟩ : ∃ K, z - trN crc = K := ⟨_, rfl⟩
              have w1 : IntKind.i64.wrap ((z : Int) - (trN crc : Nat)) = (K : Int) := by rw [w64 (by omega)]; omega
              obtain ⟨dl, hdl⟩ : ∃ dl, K - 3 = dl := ⟨_, rfl⟩
              rw [hK, hdl] at hs0
              have hdl2 : dl = 128 ∨ dl = 1024 := by omega
              have w2 : IntKind.i64.wrap (3 + (dl : Int)) = (K : Int) := by rw [w64 (by omega)]; omega
              obtain ⟨v4, hv4, hr41, hb4⟩ := (hrr.sep h4).sl.btw (a := 3) (b := K) (by omega) (by omega)
              rw [← List.map_drop, ← List.map_take, hdl] at hr41
              have hv4 : slW 1 v (some (.int .i64 3)) (some (.int .i64 (K : Int))) = some v4 := hv4
              obtain ⟨v5, hv5, hr51, hb5⟩ := (hrr.sep h4).sl.btw (a := K) (b := z) (by omega) (by omega)
              rw [← List.map_drop, ← List.map_take, show z - K = trN crc by omega] at hr51
              generalize hd : (b.drop 3).take dl = d at *
              generalize htl : (b.drop K).take (trN crc) = tl at *
              have hdn : d.length = dl := by rw [← hd]; simp; omega
              have htn : tl.length = trN crc := by rw [← htl]; simp; omega
              simp -implicitDefEqProofs (disch := first | assumption | (simp only [wnA]; done) | (simp only [wnA]; omega) | omega | fail) [wkA, retV, stabOk, dC, ev, fillD, pickCells, putAt, bnd, slD, List.getElem?_cons_zero, List.getElem?_cons_succ, dR_sl, Mem.cell, Mem.row, wmA, w1, hv4]
              refine SK_nwS h4 (k := dl) (ys := d.map byteV) (by simp [wkA, retV, stabOk, dC, ev, fillD, pickCells, putAt, bnd, slD, List.getElem?_cons_zero, List.getElem?_cons_succ, dR_sl]) (by simp [wkA, retV, stabOk, dC, ev, fillD, pickCells, putAt, bnd, slD, List.getElem?_cons_zero, List.getElem?_cons_succ, dR_sl]; exact hr41.elems) (by simp [wkA, retV, stabOk, dC, ev, fillD, pickCells, putAt, bnd, slD, List.getElem?_cons_zero, List.getElem?_cons_succ, dR_sl]; exact hr41.lenV) (byteV_oneC _) (by omega) (by unfold maxLen; omega) (by simp [hdn]) fun ob5 m5 h5 hn5 _ => ?_
              have g5 := h5.get 1 rfl
              simp -implicitDefEqProofs (disch := first | assumption | (simp only [wnA]; done) | (simp only [wnA]; omega) | omega | fail) [wkA, retV, stabOk, dC, ev, fillD, pickCells, putAt, bnd, slD, List.getElem?_cons_zero, List.getElem?_cons_succ, dR_sl, Mem.cell, Mem.row, wmA, g5]
              refine SK_stS h5 1 rfl (o := 1) (vs := [slV ob5 dl 1]) (cs' := [.int .u8 ((255 - y).toNat : Int), slV ob5 dl 1]) (by simp [wkA, retV, stabOk, dC, ev, fillD, pickCells, putAt, bnd, slD, List.getElem?_cons_zero, List.getElem?_cons_succ, dR_sl]) (by simp [wkA, retV, stabOk, dC, ev, fillD, pickCells, putAt, bnd, slD, List.getElem?_cons_zero, List.getElem?_cons_succ, dR_sl]) (by simp) rfl (by simp [oneC_slV]) rfl fun m6 h6 n6 => ?_
              have g6 := h6.get 1 rfl
              have hO6 := h6.slO 0 (k := dl) (sz := 1) rfl (by simp [hdn]) hn5
              have hsl6 := hO6.slen
              have hb6 := ((hrr.sep h6).sl.btw (a := K) (b := z) (by omega) (by omega))
              have hr56 : SlR m6 1 v5 (tl.map byteV) (trN crc) := hr51.keep fun k hk => by
                obtain ⟨hk1, hk2⟩ := hrr.bl k (hb5 k hk)
                rw [h6.k.2 k hk1 hk1, h4.k.2 k hk1 hk1]
              have hbs6 : bstr m6 v5 = some (.string ⟨⟨tl⟩⟩) := SlR.txt (by rw [htn]; exact hr56)
              simp -implicitDefEqProofs (disch := first | assumption | (simp only [wnA]; done) | (simp only [wnA]; omega) | omega | fail) [wkA, retV, stabOk, dC, ev, fillD, pickCells, putAt, bnd, slD, List.getElem?_cons_zero, List.getElem?_cons_succ, dR_sl, Mem.cell, Mem.row, wmA, g6, hsl6, w2, hv5, hbs6]
              refine c_trailer (d := d) (by rw [hdn]; exact hO6.read) (by rw [hdn]; unfold maxLen; omega) ?_
              have h7 := h6.push (.own ((trailL d crc).map byteV) 5)
              obtain ⟨m7, hm7⟩ : ∃ m7, m6.push (.own ((trailL d crc).map byteV) 5) = m7 := ⟨_, rfl⟩
              obtain ⟨b7, hb7⟩ : ∃ b7, m6.next = b7 := ⟨_, rfl⟩
              rw [hm7, hb7] at h7
              rw [hm7, hb7]
              clear hm7
              have g7 := h7.get 2 rfl
              have hr57 : SlR m7 1 v5 (tl.map byteV) (trN crc) := hr51.keep fun k hk => by
                obtain ⟨hk1, hk2⟩ := hrr.bl k (hb5 k hk)
                rw [h7.k.2 k hk1 hk1, h4.k.2 k hk1 hk1]
              have hbs7 : bstr m7 v5 = some (.string ⟨⟨tl⟩⟩) := SlR.txt (by rw [htn]; exact hr57)
              have hO7 := h7.slO 0 (k := trN crc) (sz := 1) rfl (by simp [trail_len]) (by simp)
              have hbs8 : bstr m7 (.slice (some ⟨b7, 0, none⟩) (trN crc) 1) = some (.string ⟨⟨trailL d crc⟩⟩) := SlR.txt (by rw [trail_len]; exact hO7.read)
              generalize trailL d crc = tr at *
              have hcmp : (!(tr == tl)) = decide (tr ≠ tl) := by by_cases h : tr = tl <;> simp [h]
              simp -implicitDefEqProofs (disch := first | assumption | (simp only [wnA]; done) | (simp only [wnA]; omega) | omega | fail) [wkA, retV, stabOk, dC, ev, fillD, pickCells, putAt, bnd, slD, List.getElem?_cons_zero, List.getElem?_cons_succ, dR_sl, Mem.cell, Mem.row, wmA, g7, hbs7, hbs8, hcmp, thenA_goto]
              by_cases htt : tr = tl
              · rw [if_pos htt] at hs0
                simp -implicitDefEqProofs (disch := first | assumption | (simp only [wnA]; done) | (simp only [wnA]; omega) | omega | fail) [wkA, retV, stabOk, dC, ev, fillD, pickCells, putAt, bnd, slD, List.getElem?_cons_zero, List.getElem?_cons_succ, dR_sl, Mem.cell, Mem.row, wmA, htt, rc57_4, thenA_goto, g7]
                refine SK_stS h7 3 rfl (o := 0) (vs := [.int .u8 ((255 - y).toNat : Int), slV ob5 dl 1]) (cs' := [.int .u8 ((255 - y).toNat : Int), slV ob5 dl 1]) (by simp [wkA, retV, stabOk, dC, ev, fillD, pickCells, putAt, bnd, slD, List.getElem?_cons_zero, List.getElem?_cons_succ, dR_sl]) (by simp [wkA, retV, stabOk, dC, ev, fillD, pickCells, putAt, bnd, slD, List.getElem?_cons_zero, List.getElem?_cons_succ, dR_sl, g7]) (by simp) rfl (by simp only [List.all_cons, List.all_nil, oneC_slV, Bool.and_true]; rfl) rfl fun m8 h8 n8 => ?_
                have g8 := h8.get 3 rfl
                simp -implicitDefEqProofs (disch := first | assumption | (simp only [wnA]; done) | (simp only [wnA]; omega) | omega | fail) [wkA, retV, stabOk, dC, ev, fillD, pickCells, putAt, bnd, slD, List.getElem?_cons_zero, List.getElem?_cons_succ, dR_sl, Mem.cell, Mem.row, wmA, g8]
                rw [hne] at hs0
                rw [hs0, hdn] at hq
                exact hq ob5 m8 h8.toOld (h8.fresh 1 rfl) (fun hn => List.length_eq_zero_iff.1 (by rw [hdn]; exact hn5 hn))
              · rw [if_neg htt] at hs0
                simp -implicitDefEqProofs (disch := first | assumption | (simp only [wnA]; done) | (simp only [wnA]; omega) | omega | fail) [wkA, retV, stabOk, dC, ev, fillD, pickCells, putAt, bnd, slD, List.getElem?_cons_zero, List.getElem?_cons_succ, dR_sl, Mem.cell, Mem.row, wmA, htt, thenA_goto]
                exact hJ true 0 _ _ ⟨by simp [hs0], h7.sel [3] (by decide), by simp⟩
          · rw [if_pos ⟨h2l, hne⟩] at hs0
            simp -implicitDefEqProofs (disch := first | assumption | (simp only [wnA]; done) | (simp only [wnA]; omega) | omega | fail) [wkA, retV, stabOk, dC, ev, fillD, pickCells, putAt, bnd, slD, List.getElem?_cons_zero, List.getElem?_cons_succ, dR_sl, Mem.cell, Mem.row, wmA, thenA_goto, hne]
            exact hJ true 0 _ _ ⟨by simp [hs0], h2.tl, by simp⟩
        · have h2l' : ¬ (2 : Int) < (b.length : Int) := by omega
          have hlz : (b.length : Int) < (z : Int) := by omega
          rw [if_neg (fun h => h2l h.1), if_pos (by omega)] at hs0
          simp -implicitDefEqProofs (disch := first | assumption | (simp only [wnA]; done) | (simp only [wnA]; omega) | omega | fail) [wkA, retV, stabOk, dC, ev, fillD, pickCells, putAt, bnd, slD, List.getElem?_cons_zero, List.getElem?_cons_succ, dR_sl, Mem.cell, Mem.row, wmA, thenA_goto, hz0', rc57_7, rc57_6, hsl, h2l', hlz]
          exact hJ false 0 _ _ ⟨by simp [hs0], h2.tl, by simp⟩
  · rintro k ts m2 J ⟨hs, h2, t4⟩ hJ
    have g2 := h2.get 0 rfl
    simp -implicitDefEqProofs (disch := first | assumption | (simp only [wnA]; done) | (simp only [wnA]; omega) | omega | fail) [rc57_9, rc57_2, wkA, retV, stabOk, dC, ev, fillD, pickCells, putAt, bnd, slD, List.getElem?_cons_zero, List.getElem?_cons_succ, dR_sl, Mem.cell, Mem.row, wmA, t4]
    refine SK_stS h2 0 rfl (o := 0) (cs' := [.int .u8 0, .slice none 0 0]) (vs := [.int .u8 0, .slice none 0 0]) (by simp [wkA, retV, stabOk, dC, ev, fillD, pickCells, putAt, bnd, slD, List.getElem?_cons_zero, List.getElem?_cons_succ, dR_sl, t4]) (by simp [wkA, retV, stabOk, dC, ev, fillD, pickCells, putAt, bnd, slD, List.getElem?_cons_zero, List.getElem?_cons_succ, dR_sl]) (by simp) rfl rfl rfl fun m3 h3 n3 => ?_
    have g3 := h3.get 0 rfl
    simp -implicitDefEqProofs (disch := first | assumption | (simp only [wnA]; done) | (simp only [wnA]; omega) | omega | fail) [wkA, retV, stabOk, dC, ev, fillD, pickCells, putAt, bnd, slD, List.getElem?_cons_zero, List.getElem?_cons_succ, dR_sl, Mem.cell, Mem.row, wmA, t4, g3]
    rw [hs] at hq
    exact hq none m3 h3.toOld (fun i hi => by cases hi) (fun _ => rfl)
  · rintro k ts m2 J ⟨hs, h2, t4⟩ hJ
    have g2 := h2.get 0 rfl
    simp -implicitDefEqProofs (disch := first | assumption | (simp only [wnA]; done) | (simp only [wnA]; omega) | omega | fail) [rc57_10, rc57_0, wkA, retV, stabOk, dC, ev, fillD, pickCells, putAt, bnd, slD, List.getElem?_cons_zero, List.getElem?_cons_succ, dR_sl, Mem.cell, Mem.row, wmA, t4]
    refine SK_stS h2 0 rfl (o := 0) (cs' := [.int .u8 0, .slice none 0 0]) (vs := [.int .u8 0, .slice none 0 0]) (by simp [wkA, retV, stabOk, dC, ev, fillD, pickCells, putAt, bnd, slD, List.getElem?_cons_zero, List.getElem?_cons_succ, dR_sl, t4]) (by simp [wkA, retV, stabOk, dC, ev, fillD, pickCells, putAt, bnd, slD, List.getElem?_cons_zero, List.getElem?_cons_succ, dR_sl]) (by simp) rfl rfl rfl fun m3 h3 n3 => ?_
    have g3 := h3.get 0 rfl
    simp -implicitDefEqProofs (disch := first | assumption | (simp only [wnA]; done) | (simp only [wnA]; omega) | omega | fail) [wkA, retV, stabOk, dC, ev, fillD, pickCells, putAt, bnd, slD, List.getElem?_cons_zero, List.getElem?_cons_succ, dR_sl, Mem.cell, Mem.row, wmA, t4, g3]
    rw [hs] at hq
    exact hq none m3 h3.toOld (fun i hi => by cases hi) (fun _ => rfl)
end Go.Proofs.YthmhappejchilaaGreatDoor.Ab

set_option linter.unusedVariables false
set_option linter.unusedSimpArgs false
namespace Go.Proofs.YthmhappejchilaaGreatDoor.Ab
open Go Go.RowKit
set_option maxHeartbeats 4000000
set_option maxRecDepth 100000
def errV (n : Nat) : Value := match n with
  | 0 => .nilIface
  | k + 1 => .iface 71 (.int .i64 ((k + 1 : Nat) : Int))
theorem cellsV_errV (n : Nat) : cellsV (errV n) = [errV n] := by cases n <;> rfl
theorem oneC_errV (n : Nat) : oneC (errV n) = true := by cases n <;> rfl
structure Rc where
  crc : Bool
  wait : Int
  tries : Int
  left : Int
  number : UInt8
  begun : Bool
  close : Bool
  buffer : List UInt8
  data : List UInt8
  blocks : Int
  want : Int
  over : Bool
  err : Nat
def rcC (s : Rc) (vb vd : Value) : List Value := [.bool s.crc, .int .i64 s.wait, .int .i64 s.tries, .int .i64 s.left, .int .u8 (s.number.toNat : Int), .bool s.begun, .bool s.close, vb, vd, .int .i64 s.blocks, .int .i64 s.want, .bool s.over, errV s.err]
def rcH (ir : Nat) (ob od : Option Nat) (s : Rc) : HL := [(some ir, .own (rcC s (slV ob s.buffer.length 1) (slV od s.data.length 1)) 114), byH ob s.buffer, byH od s.data]
structure RcW (s : Rc) : Prop where
  w1 : 1 ≤ s.wait
  w2 : s.wait ≤ 99
  t1 : 0 ≤ s.tries
  t2 : s.tries ≤ 9
  l1 : 1 ≤ s.left
  l2 : s.left ≤ 99
  b1 : 0 ≤ s.blocks
  b2 : s.blocks ≤ s.data.length
theorem add8 (c : UInt8) : IntKind.u8.wrap ((c.toNat : Int) + 1) = ((c + 1).toNat : Int) := by
  have hc := c.toNat_lt
  rw [UInt8.toNat_add]
  have h1 : (1 : UInt8).toNat = 1 := rfl
  rw [h1]
  simp only [IntKind.wrap, IntKind.bits, IntKind.signed]
  simp
theorem sub8 (c : UInt8) : IntKind.u8.wrap ((c.toNat : Int) - 1) = ((c - 1).toNat : Int) := by
  have hc := c.toNat_lt
  rw [UInt8.toNat_sub]
  have h1 : (1 : UInt8).toNat = 1 := rfl
  rw [h1]
  simp only [IntKind.wrap, IntKind.bits, IntKind.signed]
  simp
  omega
theorem c_rEnd {w0 : World} {V : Nat → Prop} {m0 m : Mem} {l : HL} {ir : Nat} {s : Rc} {vb vd v : Value} {e : Nat} {Q : Value → Mem → Prop} (h : Sep m0 V m l) (q : Nat) (hl : l[q]? = some (some ir, .own (rcC s vb vd) 114))
    (hq : ∀ M, Sep m0 V M (l.set q (some ir, .own (rcC { s with over := true, err := e } vb vd) 114)) → Q v M) :
    AbC Tryz.prog w0 79 [.pointer (some ⟨ir, 0, none⟩), errV e, v] m Q := by
  refine AbC_fn ok79 (by simp) ?_
  simp -implicitDefEqProofs (disch := first | assumption | omega | fail) [rc79, ro79, wkB, retV, stabOk, dC, ev, fillD, pickCells, putAt, bnd, slD, List.getElem?_cons_zero, List.getElem?_cons_succ, Mem.cell, Mem.row, cells_own, cells_ro]
  refine SK_stS h q hl (o := 11) (vs := [.bool true]) (cs' := rcC { s with over := true } vb vd) (by simp [wkB, retV, stabOk, dC, ev, fillD, pickCells, putAt, bnd, slD, List.getElem?_cons_zero, List.getElem?_cons_succ, Mem.cell, Mem.row, cells_own, cells_ro]) (by simp [wkB, retV, stabOk, dC, ev, fillD, pickCells, putAt, bnd, slD, List.getElem?_cons_zero, List.getElem?_cons_succ, Mem.cell, Mem.row, cells_own, cells_ro]) (by simp [rcC]) rfl rfl (by simp [rcC, putAt]) fun m1 h1 n1 => ?_
  have hl1 : (l.set q (some ir, Ent.own (rcC { s with over := true } vb vd) 114))[q]? = some (some ir, .own (rcC { s with over := true } vb vd) 114) := by
    rw [List.getElem?_set_self]; exact (List.getElem?_eq_some_iff.1 hl).1
  simp -implicitDefEqProofs (disch := first | assumption | omega | fail) [wkB, retV, stabOk, dC, ev, fillD, pickCells, putAt, bnd, slD, List.getElem?_cons_zero, List.getElem?_cons_succ, Mem.cell, Mem.row, cells_own, cells_ro]
  refine SK_stS h1 q hl1 (o := 12) (vs := [errV e]) (cs' := rcC { s with over := true, err := e } vb vd) (by simp [wkB, retV, stabOk, dC, ev, fillD, pickCells, putAt, bnd, slD, List.getElem?_cons_zero, List.getElem?_cons_succ, Mem.cell, Mem.row, cells_own, cells_ro]) (by simp [wkB, retV, stabOk, dC, ev, fillD, pickCells, putAt, bnd, slD, List.getElem?_cons_zero, List.getElem?_cons_succ, Mem.cell, Mem.row, cells_own, cells_ro, cellsV_errV]) (by simp [rcC]) rfl (by simp [oneC_errV]) (by simp [rcC, putAt]) fun m2 h2 n2 => ?_
  rw [List.set_set] at h2
  simp -implicitDefEqProofs (disch := first | assumption | omega | fail) [wkB, retV, stabOk, dC, ev, fillD, pickCells, putAt, bnd, slD, List.getElem?_cons_zero, List.getElem?_cons_succ, Mem.cell, Mem.row, cells_own, cells_ro]
  exact hq m2 h2
def finF (s : Rc) : Rc × List UInt8 := if s.close = false ∧ s.blocks = s.want then ({ s with over := true, err := 0 }, [6]) else (s, [6])
def takeF (s : Rc) (n : UInt8) (d : List UInt8) : Rc × List UInt8 :=
  if n = s.number then finF { s with data := s.data ++ d, number := s.number + 1, blocks := s.blocks + 1, begun := true }
  else if s.begun = false ∨ n ≠ s.number - 1 then ({ s with over := true, err := 14 }, [24, 24]) else finF s
theorem c_rTake {w0 : World} {V : Nat → Prop} {m : Mem} {ir : Nat} {ob od : Option Nat} {s : Rc} {v : Value} {n : UInt8} {d : List UInt8} {Q : Value → Mem → Prop} (h : Sep m V m (rcH ir ob od s)) (hb : ob = none → s.buffer.length = 0) (hd : od = none → s.data.length = 0) (hw : RcW s)
    (hr : RdV V m 1 v (d.map byteV) d.length) (hdl : 1 ≤ d.length) (hbig : s.data.length + d.length ≤ 140737488355328)
    (hq : ∀ oo od' M, Sep m V M (byH (some oo) (takeF s n d).2 :: rcH ir ob od' (takeF s n d).1) → (od' = none → (takeF s n d).1.data.length = 0) → RcW (takeF s n d).1 → Q (slV (some oo) (takeF s n d).2.length 1) M) :
    AbC Tryz.prog w0 83 [.pointer (some ⟨ir, 0, none⟩), .agg ⟨[.int .u8 (n.toNat : Int), v]⟩] m Q := by
  refine AbC_fn ok83 (by simp) ?_
  simp -implicitDefEqProofs (disch := first | assumption | omega | fail) [rc83, ro83, wkB, retV, stabOk, dC, ev, fillD, pickCells, putAt, bnd, slD, List.getElem?_cons_zero, List.getElem?_cons_succ, Mem.cell, Mem.row, cells_own, cells_ro]
  refine SK_bxS h (cs := [.int .u8 (n.toNat : Int), v]) (by simp [wkB, retV, stabOk, dC, ev, fillD, pickCells, putAt, bnd, slD, List.getElem?_cons_zero, List.getElem?_cons_succ, Mem.cell, Mem.row, cells_own, cells_ro]) fun B m1 h1 _ _ => ?_
  simp -implicitDefEqProofs (disch := first | assumption | omega | fail) [wkB, retV, stabOk, dC, ev, fillD, pickCells, putAt, bnd, slD, List.getElem?_cons_zero, List.getElem?_cons_succ, Mem.cell, Mem.row, cells_own, cells_ro]
  have key : ∀ (s1 : Rc) (od1 : Option Nat) (fr : Fr) (M : Mem), Sep m V M ((some B, .own [.int .u8 (n.toNat : Int), v] 50) :: rcH ir ob od1 s1) → (od1 = none → s1.data.length = 0) → RcW s1 → fr 0 = .pointer (some ⟨ir, 0, none⟩) → takeF s n d = finF s1 →
      AbW Tryz.prog w0 rc83_1 (bodyA [.mv (.tmp 4)] Q) fr M := by
    intro s1 od1 fr M hM hod hw1 t0 he
    have gi := hM.get 1 rfl
    rw [he] at hq
    have eb : ((s1.blocks == s1.want) : Bool) = decide (s1.blocks = s1.want) := by by_cases hh : s1.blocks = s1.want <;> simp [hh]
    cases hc : s1.close with
    | true =>
      have hf : finF s1 = (s1, [6]) := by simp [finF, hc]
      rw [hf] at hq
      simp only [rcC, hc] at gi
      simp -implicitDefEqProofs (disch := first | assumption | omega | fail) [rc83_1, rc83_0, wkB, retV, stabOk, dC, ev, fillD, pickCells, putAt, bnd, slD, List.getElem?_cons_zero, List.getElem?_cons_succ, Mem.cell, Mem.row, cells_own, cells_ro, t0, gi]
      refine SK_bslS hM (cs := ([6] : List UInt8).map byteV) (by simp [fillD, pickCells, wkB, retV, stabOk, dC, ev, fillD, pickCells, putAt, bnd, slD, List.getElem?_cons_zero, List.getElem?_cons_succ, Mem.cell, Mem.row, cells_own, cells_ro, byteV]) (by simp) fun b m2 h2 _ _ => ?_
      simp -implicitDefEqProofs (disch := first | assumption | omega | fail) [wkB, retV, stabOk, dC, ev, fillD, pickCells, putAt, bnd, slD, List.getElem?_cons_zero, List.getElem?_cons_succ, Mem.cell, Mem.row, cells_own, cells_ro]
      exact hq b od1 m2 (h2.sel [0, 2, 3, 4] (by decide)) hod hw1
    | false =>
      simp only [rcC, hc] at gi
      by_cases hbw : s1.blocks = s1.want
      · have hf : finF s1 = ({ s1 with over := true, err := 0 }, [6]) := by simp [finF, hc, hbw]
        rw [hf] at hq
        simp -implicitDefEqProofs (disch := first | assumption | omega | fail) [rc83_1, wkB, retV, stabOk, dC, ev, fillD, pickCells, putAt, bnd, slD, List.getElem?_cons_zero, List.getElem?_cons_succ, Mem.cell, Mem.row, cells_own, cells_ro, t0, gi, hbw]
        refine SK_bslS hM (cs := ([6] : List UInt8).map byteV) (by simp [fillD, pickCells, wkB, retV, stabOk, dC, ev, fillD, pickCells, putAt, bnd, slD, List.getElem?_cons_zero, List.getElem?_cons_succ, Mem.cell, Mem.row, cells_own, cells_ro, byteV]) (by simp) fun b m2 h2 _ _ => ?_
        simp -implicitDefEqProofs (disch := first | assumption | omega | fail) [wkB, retV, stabOk, dC, ev, fillD, pickCells, putAt, bnd, slD, List.getElem?_cons_zero, List.getElem?_cons_succ, Mem.cell, Mem.row, cells_own, cells_ro, t0]
        refine c_rEnd (s := s1) (e := 0) h2 2 rfl fun m3 h3 => ?_
        simp -implicitDefEqProofs (disch := first | assumption | omega | fail) [wkB, retV, stabOk, dC, ev, fillD, pickCells, putAt, bnd, slD, List.getElem?_cons_zero, List.getElem?_cons_succ, Mem.cell, Mem.row, cells_own, cells_ro]
        exact hq b od1 m3 (h3.sel [0, 2, 3, 4] (by decide)) hod ⟨hw1.1, hw1.2, hw1.3, hw1.4, hw1.5, hw1.6, hw1.7, hw1.8⟩
      · have hf : finF s1 = (s1, [6]) := by simp [finF, hc, hbw]
        rw [hf] at hq
        have eb : (s1.blocks == s1.want) = false := by simp [hbw]
        simp -implicitDefEqProofs (disch := first | assumption | omega | fail) [rc83_1, rc83_0, wkB, retV, stabOk, dC, ev, fillD, pickCells, putAt, bnd, slD, List.getElem?_cons_zero, List.getElem?_cons_succ, Mem.cell, Mem.row, cells_own, cells_ro, t0, gi, eb]
        refine SK_bslS hM (cs := ([6] : List UInt8).map byteV) (by simp [fillD, pickCells, wkB, retV, stabOk, dC, ev, fillD, pickCells, putAt, bnd, slD, List.getElem?_cons_zero, List.getElem?_cons_succ, Mem.cell, Mem.row, cells_own, cells_ro, byteV]) (by simp) fun b m2 h2 _ _ => ?_
        simp -implicitDefEqProofs (disch := first | assumption | omega | fail) [wkB, retV, stabOk, dC, ev, fillD, pickCells, putAt, bnd, slD, List.getElem?_cons_zero, List.getElem?_cons_succ, Mem.cell, Mem.row, cells_own, cells_ro]
        exact hq b od1 m2 (h2.sel [0, 2, 3, 4] (by decide)) hod hw1
  have g0 := h1.get 0 rfl
  have g1 := h1.get 1 rfl
  simp only [rcC] at g1
  have en := c8 n s.number
  by_cases h8 : n = s.number
  · have h8' : ((n.toNat : Int) == (s.number.toNat : Int)) = true := by rw [en]; simp [h8]
    simp -implicitDefEqProofs (disch := first | assumption | omega | fail) [wkB, retV, stabOk, dC, ev, fillD, pickCells, putAt, bnd, slD, List.getElem?_cons_zero, List.getElem?_cons_succ, Mem.cell, Mem.row, cells_own, cells_ro, g0, g1, h8']
    refine SK_apS h1 3 (n := s.data.length) (k := d.length) (ys := d.map byteV) rfl (by simp [wkB, retV, stabOk, dC, ev, fillD, pickCells, putAt, bnd, slD, List.getElem?_cons_zero, List.getElem?_cons_succ, Mem.cell, Mem.row, cells_own, cells_ro, g1]) (by simp) hd (by simp [wkB, retV, stabOk, dC, ev, fillD, pickCells, putAt, bnd, slD, List.getElem?_cons_zero, List.getElem?_cons_succ, Mem.cell, Mem.row, cells_own, cells_ro, g0]; exact (hr.sep h1).sl.elems) (by simp [wkB, retV, stabOk, dC, ev, fillD, pickCells, putAt, bnd, slD, List.getElem?_cons_zero, List.getElem?_cons_succ, Mem.cell, Mem.row, cells_own, cells_ro, g0]; exact hr.sl.lenV) (byteV_oneC _) (by omega) (by unfold maxLen; omega) (by simp) fun od2 m2 h2 hn2 _ => ?_
    simp -implicitDefEqProofs (disch := first | assumption | omega | fail) [wkB, retV, stabOk, dC, ev, fillD, pickCells, putAt, bnd, slD, List.getElem?_cons_zero, List.getElem?_cons_succ, Mem.cell, Mem.row, cells_own, cells_ro]
    refine SK_stS h2 1 rfl (o := 8) (vs := [slV od2 (s.data.length + d.length) 1]) (cs' := rcC { s with data := s.data ++ d } (slV ob s.buffer.length 1) (slV od2 (s.data.length + d.length) 1)) (by simp [wkB, retV, stabOk, dC, ev, fillD, pickCells, putAt, bnd, slD, List.getElem?_cons_zero, List.getElem?_cons_succ, Mem.cell, Mem.row, cells_own, cells_ro]) (by simp [wkB, retV, stabOk, dC, ev, fillD, pickCells, putAt, bnd, slD, List.getElem?_cons_zero, List.getElem?_cons_succ, Mem.cell, Mem.row, cells_own, cells_ro]) (by simp [rcC]) rfl (by simp [oneC_slV]) (by simp [rcC, putAt]) fun m3 h3 _ => ?_
    have g3 := h3.get 1 rfl
    have w8a := add8 s.number
    simp only [rcC] at g3
    simp -implicitDefEqProofs (disch := first | assumption | omega | fail) [wkB, retV, stabOk, dC, ev, fillD, pickCells, putAt, bnd, slD, List.getElem?_cons_zero, List.getElem?_cons_succ, Mem.cell, Mem.row, cells_own, cells_ro, g3, w8a]
    refine SK_stS h3 1 rfl (o := 4) (vs := [.int .u8 ((s.number + 1).toNat : Int)]) (cs' := rcC { s with data := s.data ++ d, number := s.number + 1 } (slV ob s.buffer.length 1) (slV od2 (s.data.length + d.length) 1)) (by simp [wkB, retV, stabOk, dC, ev, fillD, pickCells, putAt, bnd, slD, List.getElem?_cons_zero, List.getElem?_cons_succ, Mem.cell, Mem.row, cells_own, cells_ro]) (by simp [wkB, retV, stabOk, dC, ev, fillD, pickCells, putAt, bnd, slD, List.getElem?_cons_zero, List.getElem?_cons_succ, Mem.cell, Mem.row, cells_own, cells_ro]) (by simp [rcC]) rfl rfl (by simp [rcC, putAt]) fun m4 h4 _ => ?_
    have g4 := h4.get 1 rfl
    simp only [rcC] at g4
    have hb1 := hw.b1
    have hb2 := hw.b2
    have wb : IntKind.i64.wrap (s.blocks + 1) = s.blocks + 1 := w64 (by omega)
    simp -implicitDefEqProofs (disch := first | assumption | omega | fail) [wkB, retV, stabOk, dC, ev, fillD, pickCells, putAt, bnd, slD, List.getElem?_cons_zero, List.getElem?_cons_succ, Mem.cell, Mem.row, cells_own, cells_ro, g4, wb]
    refine SK_stS h4 1 rfl (o := 9) (vs := [.int .i64 (s.blocks + 1)]) (cs' := rcC { s with data := s.data ++ d, number := s.number + 1, blocks := s.blocks + 1 } (slV ob s.buffer.length 1) (slV od2 (s.data.length + d.length) 1)) (by simp [wkB, retV, stabOk, dC, ev, fillD, pickCells, putAt, bnd, slD, List.getElem?_cons_zero, List.getElem?_cons_succ, Mem.cell, Mem.row, cells_own, cells_ro]) (by simp [wkB, retV, stabOk, dC, ev, fillD, pickCells, putAt, bnd, slD, List.getElem?_cons_zero, List.getElem?_cons_succ, Mem.cell, Mem.row, cells_own, cells_ro]) (by simp [rcC]) rfl rfl (by simp [rcC, putAt]) fun m5 h5 _ => ?_
    simp -implicitDefEqProofs (disch := first | assumption | omega | fail) [wkB, retV, stabOk, dC, ev, fillD, pickCells, putAt, bnd, slD, List.getElem?_cons_zero, List.getElem?_cons_succ, Mem.cell, Mem.row, cells_own, cells_ro]
    refine SK_stS h5 1 rfl (o := 5) (vs := [.bool true]) (cs' := rcC { s with data := s.data ++ d, number := s.number + 1, blocks := s.blocks + 1, begun := true } (slV ob s.buffer.length 1) (slV od2 (s.data.length + d.length) 1)) (by simp [wkB, retV, stabOk, dC, ev, fillD, pickCells, putAt, bnd, slD, List.getElem?_cons_zero, List.getElem?_cons_succ, Mem.cell, Mem.row, cells_own, cells_ro]) (by simp [wkB, retV, stabOk, dC, ev, fillD, pickCells, putAt, bnd, slD, List.getElem?_cons_zero, List.getElem?_cons_succ, Mem.cell, Mem.row, cells_own, cells_ro]) (by simp [rcC]) rfl rfl (by simp [rcC, putAt]) fun m6 h6 _ => ?_
    simp -implicitDefEqProofs (disch := first | assumption | omega | fail) [wkB, retV, stabOk, dC, ev, fillD, pickCells, putAt, bnd, slD, List.getElem?_cons_zero, List.getElem?_cons_succ, Mem.cell, Mem.row, cells_own, cells_ro]
    have e6 : s.data.map byteV ++ d.map byteV = (s.data ++ d).map byteV := by simp
    have h6' : Sep m V m6 ((some B, .own [.int .u8 (n.toNat : Int), v] 50) :: rcH ir ob od2 { s with data := s.data ++ d, number := s.number + 1, blocks := s.blocks + 1, begun := true }) := by
      have := h6
      simp only [rcH, byH, List.set, List.length_append] at this ⊢
      rw [e6] at this
      exact this
    refine key _ od2 _ m6 h6' (fun e => by have := hn2 e; simp only [List.length_append]; omega) ⟨hw.1, hw.2, hw.3, hw.4, hw.5, hw.6, by show 0 ≤ s.blocks + 1; omega, by simp only [List.length_append]; omega⟩ (by simp [frA_at]) (by simp [takeF, h8])
  · have h8' : ((n.toNat : Int) == (s.number.toNat : Int)) = false := by rw [en]; simp [h8]
    have e9 := c8n n (s.number - 1)
    have e10 := sub8 s.number
    cases hbg : s.begun with
    | false =>
      have ht : takeF s n d = ({ s with over := true, err := 14 }, [24, 24]) := by simp [takeF, h8, hbg]
      rw [ht] at hq
      rw [hbg] at g1
      simp -implicitDefEqProofs (disch := first | assumption | omega | fail) [wkB, retV, stabOk, dC, ev, fillD, pickCells, putAt, bnd, slD, List.getElem?_cons_zero, List.getElem?_cons_succ, Mem.cell, Mem.row, cells_own, cells_ro, g0, g1, h8']
      refine SK_bslS h1 (cs := ([24, 24] : List UInt8).map byteV) (by simp [fillD, pickCells, wkB, retV, stabOk, dC, ev, fillD, pickCells, putAt, bnd, slD, List.getElem?_cons_zero, List.getElem?_cons_succ, Mem.cell, Mem.row, cells_own, cells_ro, byteV]) (by simp) fun b m2 h2 _ _ => ?_
      simp -implicitDefEqProofs (disch := first | assumption | omega | fail) [wkB, retV, stabOk, dC, ev, fillD, pickCells, putAt, bnd, slD, List.getElem?_cons_zero, List.getElem?_cons_succ, Mem.cell, Mem.row, cells_own, cells_ro]
      refine c_rEnd (s := s) (e := 14) h2 2 rfl fun m3 h3 => ?_
      simp -implicitDefEqProofs (disch := first | assumption | omega | fail) [wkB, retV, stabOk, dC, ev, fillD, pickCells, putAt, bnd, slD, List.getElem?_cons_zero, List.getElem?_cons_succ, Mem.cell, Mem.row, cells_own, cells_ro]
      exact hq b od m3 (h3.sel [0, 2, 3, 4] (by decide)) hd ⟨hw.1, hw.2, hw.3, hw.4, hw.5, hw.6, hw.7, hw.8⟩
    | true =>
      rw [hbg] at g1
      by_cases h9 : n = s.number - 1
      · have ht : takeF s n d = finF s := by
          unfold takeF
          rw [if_neg h8, if_neg (by simp [hbg, ← h9])]
        rw [h9] at e9
        have e9 : (((s.number - 1).toNat : Int) != ((s.number - 1).toNat : Int)) = false := by simp
        rw [← h9] at e9
        simp -implicitDefEqProofs (disch := first | assumption | omega | fail) [wkB, retV, stabOk, dC, ev, fillD, pickCells, putAt, bnd, slD, List.getElem?_cons_zero, List.getElem?_cons_succ, Mem.cell, Mem.row, cells_own, cells_ro, g0, g1, h8', e10, ← h9]
        exact key s od _ m1 h1 hd hw (by simp [frA_at]) ht
      · have ht : takeF s n d = ({ s with over := true, err := 14 }, [24, 24]) := by simp [takeF, h8, h9]
        rw [ht] at hq
        have e9 : ((n.toNat : Int) != ((s.number - 1).toNat : Int)) = true := by rw [e9]; simp [h9]
        simp -implicitDefEqProofs (disch := first | assumption | omega | fail) [wkB, retV, stabOk, dC, ev, fillD, pickCells, putAt, bnd, slD, List.getElem?_cons_zero, List.getElem?_cons_succ, Mem.cell, Mem.row, cells_own, cells_ro, g0, g1, h8', e10, e9]
        refine SK_bslS h1 (cs := ([24, 24] : List UInt8).map byteV) (by simp [fillD, pickCells, wkB, retV, stabOk, dC, ev, fillD, pickCells, putAt, bnd, slD, List.getElem?_cons_zero, List.getElem?_cons_succ, Mem.cell, Mem.row, cells_own, cells_ro, byteV]) (by simp) fun b m2 h2 _ _ => ?_
        simp -implicitDefEqProofs (disch := first | assumption | omega | fail) [wkB, retV, stabOk, dC, ev, fillD, pickCells, putAt, bnd, slD, List.getElem?_cons_zero, List.getElem?_cons_succ, Mem.cell, Mem.row, cells_own, cells_ro]
        refine c_rEnd (s := s) (e := 14) h2 2 rfl fun m3 h3 => ?_
        simp -implicitDefEqProofs (disch := first | assumption | omega | fail) [wkB, retV, stabOk, dC, ev, fillD, pickCells, putAt, bnd, slD, List.getElem?_cons_zero, List.getElem?_cons_succ, Mem.cell, Mem.row, cells_own, cells_ro]
        exact hq b od m3 (h3.sel [0, 2, 3, 4] (by decide)) hd ⟨hw.1, hw.2, hw.3, hw.4, hw.5, hw.6, hw.7, hw.8⟩
end Go.Proofs.YthmhappejchilaaGreatDoor.Ab

set_option linter.unusedVariables false
set_option linter.unusedSimpArgs false
namespace Go.Proofs.YthmhappejchilaaGreatDoor.Ab
open Go Go.RowKit
set_option maxHeartbeats 4000000
set_option maxRecDepth 100000
structure RcR (H : HL) (ir : Nat) (s : Rc) : Prop where
  ex : ∃ ob od, H = rcH ir ob od s ∧ (ob = none → s.buffer.length = 0) ∧ (od = none → s.data.length = 0)
  w : RcW s
noncomputable def scaF (s : Rc) : Rc × List UInt8 :=
  if (scanF s.buffer s.crc).1 = 0 then (s, []) else if (scanF s.buffer s.crc).1 = 1 then ({ s with buffer := [] }, [21]) else takeF { s with buffer := [] } (scanF s.buffer s.crc).2.1 (scanF s.buffer s.crc).2.2
noncomputable def rPut1 (s : Rc) : Rc × List UInt8 :=
  if s.buffer.getD 0 0 = 4 ∧ s.close = true then ({ s with over := true, err := 0 }, [6])
  else if s.buffer.getD 0 0 = 24 ∧ 1 < s.buffer.length ∧ s.buffer.getD 1 0 = 24 then ({ s with over := true, err := 9 }, [])
  else if s.buffer.getD 0 0 = 24 ∧ s.buffer.length = 1 then (s, [])
  else scaF s
noncomputable def rPutF (s : Rc) (b : List UInt8) : Rc × List UInt8 := if s.over = true ∨ b.length = 0 then (s, []) else rPut1 { s with left := s.wait, buffer := s.buffer ++ b }
/-- What a receiver tells, and what lies behind it. -/
def RcQ (V : Nat → Prop) (m : Mem) (ir : Nat) (r : Rc × List UInt8) (Q : Value → Mem → Prop) : Prop :=
  ∀ oo H' M, Sep m V M (byH oo r.2 :: H') → RcR H' ir r.1 → (oo = none → r.2.length = 0) → Q (slV oo r.2.length 1) M
theorem finF_buf (s : Rc) : (finF s).1.buffer = s.buffer := by
  unfold finF; split <;> rfl
theorem finF_data (s : Rc) : (finF s).1.data = s.data := by
  unfold finF; split <;> rfl
theorem takeF_buf (s : Rc) (n : UInt8) (d : List UInt8) : (takeF s n d).1.buffer = s.buffer := by
  unfold takeF
  split
  · rw [finF_buf]
  · split
    · rfl
    · rw [finF_buf]
theorem c_rSca3 {w0 : World} {V : Nat → Prop} {m0 m : Mem} {ir bx : Nat} {ob od ox : Option Nat} {s : Rc} {fr : Fr} {Q : Value → Mem → Prop} (h : Sep m0 V m ((some bx, .own [.int .u8 ((scanF s.buffer s.crc).2.1.toNat : Int), slV ox (scanF s.buffer s.crc).2.2.length 1] 50) :: byH ox (scanF s.buffer s.crc).2.2 :: rcH ir ob od s))
    (hb : ob = none → s.buffer.length = 0) (hd : od = none → s.data.length = 0) (hx : ox = none → (scanF s.buffer s.crc).2.2 = []) (hw : RcW s)
    (hbig : s.data.length + 1024 ≤ 140737488355328) (t0 : fr 0 = .pointer (some ⟨ir, 0, none⟩)) (t6 : fr 6 = .pointer (some ⟨bx, 0, none⟩)) (t7 : fr 7 = .int .i64 ((scanF s.buffer s.crc).1 : Nat)) (hq : RcQ V m0 ir (scaF s) Q) :
    AbW Tryz.prog w0 rc56_3 (bodyA [.mv (.tmp 4)] Q) fr m := by
  have g0 := h.get 0 rfl
  have g2 := h.get 2 rfl
  have hst := scanF_st s.buffer s.crc
  have hln := scanF_len s.buffer s.crc
  unfold scaF at hq
  generalize scanF s.buffer s.crc = r at *
  obtain ⟨st, n, d⟩ := r
  simp only at *
  simp only [rcC] at g2
  rcases hst with rfl | rfl | rfl
  · rw [if_pos rfl] at hq
    simp -implicitDefEqProofs (disch := first | assumption | omega | fail) [rc56_3, wkB, retV, stabOk, dC, ev, fillD, pickCells, putAt, bnd, slD, List.getElem?_cons_zero, List.getElem?_cons_succ, Mem.cell, Mem.row, cells_own, cells_ro, t0, t6, t7]
    exact hq none _ m ((h.sel [2, 3, 4] (by decide)).non _) ⟨⟨ob, od, rfl, hb, hd⟩, hw⟩ (fun _ => rfl)
  · rw [if_neg (by decide), if_pos rfl] at hq
    simp -implicitDefEqProofs (disch := first | assumption | omega | fail) [rc56_3, wkB, retV, stabOk, dC, ev, fillD, pickCells, putAt, bnd, slD, List.getElem?_cons_zero, List.getElem?_cons_succ, Mem.cell, Mem.row, cells_own, cells_ro, t0, t6, t7, g2]
    refine SK_stS h 2 rfl (o := 7) (vs := [.slice none 0 0]) (cs' := rcC { s with buffer := [] } (.slice none 0 0) (slV od s.data.length 1)) (by simp [wkB, retV, stabOk, dC, ev, fillD, pickCells, putAt, bnd, slD, List.getElem?_cons_zero, List.getElem?_cons_succ, Mem.cell, Mem.row, cells_own, cells_ro]) (by simp [wkB, retV, stabOk, dC, ev, fillD, pickCells, putAt, bnd, slD, List.getElem?_cons_zero, List.getElem?_cons_succ, Mem.cell, Mem.row, cells_own, cells_ro]) (by simp [rcC]) rfl rfl (by simp [rcC, putAt]) fun m1 h1 _ => ?_
    simp -implicitDefEqProofs (disch := first | assumption | omega | fail) [wkB, retV, stabOk, dC, ev, fillD, pickCells, putAt, bnd, slD, List.getElem?_cons_zero, List.getElem?_cons_succ, Mem.cell, Mem.row, cells_own, cells_ro]
    refine SK_bslS h1 (cs := ([21] : List UInt8).map byteV) (by simp [fillD, pickCells, wkB, retV, stabOk, dC, ev, fillD, pickCells, putAt, bnd, slD, List.getElem?_cons_zero, List.getElem?_cons_succ, Mem.cell, Mem.row, cells_own, cells_ro, byteV]) (by simp) fun b m2 h2 _ _ => ?_
    simp -implicitDefEqProofs (disch := first | assumption | omega | fail) [wkB, retV, stabOk, dC, ev, fillD, pickCells, putAt, bnd, slD, List.getElem?_cons_zero, List.getElem?_cons_succ, Mem.cell, Mem.row, cells_own, cells_ro]
    exact hq (some b) _ m2 ((h2.nul 4 (.own [] 5)).sel [0, 3, 4, 5] (by decide)) ⟨⟨none, od, rfl, fun _ => rfl, hd⟩, ⟨hw.1, hw.2, hw.3, hw.4, hw.5, hw.6, hw.7, hw.8⟩⟩ (fun e => by cases e)
  · rw [if_neg (by decide), if_neg (by decide)] at hq
    have hdl := hln.2 rfl
    simp -implicitDefEqProofs (disch := first | assumption | omega | fail) [rc56_3, rc56_2, wkB, retV, stabOk, dC, ev, fillD, pickCells, putAt, bnd, slD, List.getElem?_cons_zero, List.getElem?_cons_succ, Mem.cell, Mem.row, cells_own, cells_ro, t0, t6, t7, g2]
    refine SK_stS h 2 rfl (o := 7) (vs := [.slice none 0 0]) (cs' := rcC { s with buffer := [] } (.slice none 0 0) (slV od s.data.length 1)) (by simp [wkB, retV, stabOk, dC, ev, fillD, pickCells, putAt, bnd, slD, List.getElem?_cons_zero, List.getElem?_cons_succ, Mem.cell, Mem.row, cells_own, cells_ro]) (by simp [wkB, retV, stabOk, dC, ev, fillD, pickCells, putAt, bnd, slD, List.getElem?_cons_zero, List.getElem?_cons_succ, Mem.cell, Mem.row, cells_own, cells_ro]) (by simp [rcC]) rfl rfl (by simp [rcC, putAt]) fun m1 h1 _ => ?_
    have g10 := h1.get 0 rfl
    simp -implicitDefEqProofs (disch := first | assumption | omega | fail) [wkB, retV, stabOk, dC, ev, fillD, pickCells, putAt, bnd, slD, List.getElem?_cons_zero, List.getElem?_cons_succ, Mem.cell, Mem.row, cells_own, cells_ro, t0, t6, t7, g10]
    have h2 : Sep m0 V m1 (rcH ir none od { s with buffer := [] } ++ [byH ox d]) := (h1.nul 3 (.own [] 5)).sel [2, 3, 4, 1] (by decide)
    have hr := h2.rd (X := fun i => V i ∨ ids [byH ox d] i) 3 (ob := ox) (cs := d.map byteV) (e := 5) (sz := 1) (k := d.length) rfl (by simp) (fun e => by rw [hx e]; rfl) (fun i hi => .inr ⟨_, List.mem_singleton.2 rfl, hi⟩)
    refine c_rTake (h2.fr) (fun _ => rfl) hd ⟨hw.1, hw.2, hw.3, hw.4, hw.5, hw.6, hw.7, hw.8⟩ hr (by omega) (by show s.data.length + d.length ≤ _; omega) fun oo od' M hM hod hwt => ?_
    simp -implicitDefEqProofs (disch := first | assumption | omega | fail) [wkB, retV, stabOk, dC, ev, fillD, pickCells, putAt, bnd, slD, List.getElem?_cons_zero, List.getElem?_cons_succ, Mem.cell, Mem.row, cells_own, cells_ro]
    have h3 := h2.un hM
    exact hq (some oo) _ M (h3.sel [0, 1, 2, 3] (by decide)) ⟨⟨_, od', rfl, fun e => by rw [takeF_buf]; rfl, hod⟩, hwt⟩ (fun e => by cases e)
theorem c_rSca {w0 : World} {V : Nat → Prop} {m0 m : Mem} {ir : Nat} {ob od : Option Nat} {s : Rc} {fr : Fr} {Q : Value → Mem → Prop} (h : Sep m0 V m (rcH ir ob od s)) (hb : ob = none → s.buffer.length = 0) (hd : od = none → s.data.length = 0) (hw : RcW s)
    (hbig : s.data.length + 1024 ≤ 140737488355328) (hbb : s.buffer.length ≤ 140737488355328) (t0 : fr 0 = .pointer (some ⟨ir, 0, none⟩)) (hq : RcQ V m0 ir (scaF s) Q) :
    AbW Tryz.prog w0 rc56_4 (bodyA [.mv (.tmp 4)] Q) fr m := by
  have g0 := h.get 0 rfl
  simp only [rcC] at g0
  have key := fun m ox bx fr hh hx t0 t6 t7 => c_rSca3 (w0 := w0) (m := m) (ox := ox) (bx := bx) (fr := fr) (Q := Q) hh hb hd hx hw hbig t0 t6 t7 hq
  have hrB : RdV (fun i => i < m.next) m 1 (slV ob s.buffer.length 1) (s.buffer.map byteV) s.buffer.length := h.rd 1 rfl (by simp) hb (fun i hi => by subst hi; exact h.lt 1 rfl)
  simp -implicitDefEqProofs (disch := first | assumption | omega | fail) [rc56_4, wkB, retV, stabOk, dC, ev, fillD, pickCells, putAt, bnd, slD, List.getElem?_cons_zero, List.getElem?_cons_succ, Mem.cell, Mem.row, cells_own, cells_ro, t0, g0]
  refine AbW_sem_of ?_
  simp -implicitDefEqProofs (disch := first | assumption | omega | fail) [wkB, retV, stabOk, dC, ev, fillD, pickCells, putAt, bnd, slD, List.getElem?_cons_zero, List.getElem?_cons_succ, Mem.cell, Mem.row, cells_own, cells_ro, t0, g0]
  refine ⟨?_, ?_⟩
  · simp -implicitDefEqProofs (disch := first | assumption | omega | fail) [rc56_0, wkB, retV, stabOk, dC, ev, fillD, pickCells, putAt, bnd, slD, List.getElem?_cons_zero, List.getElem?_cons_succ, Mem.cell, Mem.row, cells_own, cells_ro, t0, g0]
    refine c_Scan h.pt hrB hbb fun ox m1 o1 ho1 hx1 => ?_
    have h1 := h.new (ob := ox) (E := .own ((scanF s.buffer s.crc).2.2.map byteV) 5) o1 ho1
    simp -implicitDefEqProofs (disch := first | assumption | omega | fail) [wkB, retV, stabOk, dC, ev, fillD, pickCells, putAt, bnd, slD, List.getElem?_cons_zero, List.getElem?_cons_succ, Mem.cell, Mem.row, cells_own, cells_ro]
    refine SK_alS h1 fun bx m2 h2 _ _ => ?_
    have g2 := h2.get 2 rfl
    simp only [rcC] at g2
    simp -implicitDefEqProofs (disch := first | assumption | omega | fail) [wkB, retV, stabOk, dC, ev, fillD, pickCells, putAt, bnd, slD, List.getElem?_cons_zero, List.getElem?_cons_succ, Mem.cell, Mem.row, cells_own, cells_ro, g2]
    refine SK_stS h2 0 rfl (o := 0) (vs := [.int .u8 ((scanF s.buffer s.crc).2.1.toNat : Int), slV ox (scanF s.buffer s.crc).2.2.length 1]) (cs' := [.int .u8 ((scanF s.buffer s.crc).2.1.toNat : Int), slV ox (scanF s.buffer s.crc).2.2.length 1]) (by simp [wkB, retV, stabOk, dC, ev, fillD, pickCells, putAt, bnd, slD, List.getElem?_cons_zero, List.getElem?_cons_succ, Mem.cell, Mem.row, cells_own, cells_ro]) (by simp [wkB, retV, stabOk, dC, ev, fillD, pickCells, putAt, bnd, slD, List.getElem?_cons_zero, List.getElem?_cons_succ, Mem.cell, Mem.row, cells_own, cells_ro]) (by simp) rfl (by simp only [List.all_cons, List.all_nil, oneC_slV, Bool.and_true]; rfl) rfl fun m3 h3 _ => ?_
    simp -implicitDefEqProofs (disch := first | assumption | omega | fail) [wkB, retV, stabOk, dC, ev, fillD, pickCells, putAt, bnd, slD, List.getElem?_cons_zero, List.getElem?_cons_succ, Mem.cell, Mem.row, cells_own, cells_ro]
    exact key m3 ox bx _ h3 hx1 (by simp [t0]) (by simp) (by simp)
  · simp -implicitDefEqProofs (disch := first | assumption | omega | fail) [rc56_1, wkB, retV, stabOk, dC, ev, fillD, pickCells, putAt, bnd, slD, List.getElem?_cons_zero, List.getElem?_cons_succ, Mem.cell, Mem.row, cells_own, cells_ro, t0, g0]
    refine SK_alS h fun bx m2 h2 _ _ => ?_
    have g2 := h2.get 1 rfl
    simp only [rcC] at g2
    have hrB2 : RdV (fun i => i < m2.next) m2 1 (slV ob s.buffer.length 1) (s.buffer.map byteV) s.buffer.length := h2.rd 2 rfl (by simp) hb (fun i hi => by subst hi; exact h2.lt 2 rfl)
    simp -implicitDefEqProofs (disch := first | assumption | omega | fail) [wkB, retV, stabOk, dC, ev, fillD, pickCells, putAt, bnd, slD, List.getElem?_cons_zero, List.getElem?_cons_succ, Mem.cell, Mem.row, cells_own, cells_ro, g2]
    refine c_Scan h2.pt hrB2 hbb fun ox m1 o1 ho1 hx1 => ?_
    have h1 := h2.new (ob := ox) (E := .own ((scanF s.buffer s.crc).2.2.map byteV) 5) o1 ho1
    simp -implicitDefEqProofs (disch := first | assumption | omega | fail) [wkB, retV, stabOk, dC, ev, fillD, pickCells, putAt, bnd, slD, List.getElem?_cons_zero, List.getElem?_cons_succ, Mem.cell, Mem.row, cells_own, cells_ro]
    refine SK_stS h1 1 rfl (o := 0) (vs := [.int .u8 ((scanF s.buffer s.crc).2.1.toNat : Int), slV ox (scanF s.buffer s.crc).2.2.length 1]) (cs' := [.int .u8 ((scanF s.buffer s.crc).2.1.toNat : Int), slV ox (scanF s.buffer s.crc).2.2.length 1]) (by simp [wkB, retV, stabOk, dC, ev, fillD, pickCells, putAt, bnd, slD, List.getElem?_cons_zero, List.getElem?_cons_succ, Mem.cell, Mem.row, cells_own, cells_ro]) (by simp [wkB, retV, stabOk, dC, ev, fillD, pickCells, putAt, bnd, slD, List.getElem?_cons_zero, List.getElem?_cons_succ, Mem.cell, Mem.row, cells_own, cells_ro]) (by simp) rfl (by simp only [List.all_cons, List.all_nil, oneC_slV, Bool.and_true]; rfl) rfl fun m3 h3 _ => ?_
    simp -implicitDefEqProofs (disch := first | assumption | omega | fail) [wkB, retV, stabOk, dC, ev, fillD, pickCells, putAt, bnd, slD, List.getElem?_cons_zero, List.getElem?_cons_succ, Mem.cell, Mem.row, cells_own, cells_ro]
    exact key m3 ox bx _ (h3.sel [1, 0, 2, 3, 4] (by decide)) hx1 (by simp [t0]) (by simp) (by simp)
end Go.Proofs.YthmhappejchilaaGreatDoor.Ab

set_option linter.unusedVariables false
set_option linter.unusedSimpArgs false
namespace Go.Proofs.YthmhappejchilaaGreatDoor.Ab
open Go Go.RowKit
set_option maxHeartbeats 4000000
set_option maxRecDepth 100000
theorem c_rPut {w0 : World} {V : Nat → Prop} {m : Mem} {H : HL} {ir : Nat} {s : Rc} {v : Value} {b : List UInt8} {Q : Value → Mem → Prop} (h : Sep m V m H) (hR : RcR H ir s) (hr : RdV V m 1 v (b.map byteV) b.length)
    (hbig : s.data.length + 1024 ≤ 140737488355328) (hbb : s.buffer.length + b.length ≤ 140737488355328) (hq : RcQ V m ir (rPutF s b) Q) :
    AbC Tryz.prog w0 56 [.pointer (some ⟨ir, 0, none⟩), v] m Q := by
  refine AbC_fn ok56 (by simp) ?_
  obtain ⟨⟨ob, od, rfl, hb, hd⟩, hw⟩ := hR
  have g0 := h.get 0 rfl
  simp only [rcC] at g0
  have hsl := hr.sl.slen
  unfold rPutF at hq
  cases hov : s.over with
  | true =>
    rw [if_pos (.inl hov)] at hq
    rw [hov] at g0
    simp -implicitDefEqProofs (disch := first | assumption | omega | fail) [rc56, ro56, wkB, retV, stabOk, dC, ev, fillD, pickCells, putAt, bnd, slD, List.getElem?_cons_zero, List.getElem?_cons_succ, Mem.cell, Mem.row, cells_own, cells_ro, g0]
    exact hq none _ m (h.non _) ⟨⟨ob, od, rfl, hb, hd⟩, hw⟩ fun _ => rfl
  | false =>
    rw [hov] at g0
    by_cases hb0 : b.length = 0
    · rw [if_pos (.inr hb0)] at hq
      rw [hb0] at hsl
      simp -implicitDefEqProofs (disch := first | assumption | omega | fail) [rc56, ro56, wkB, retV, stabOk, dC, ev, fillD, pickCells, putAt, bnd, slD, List.getElem?_cons_zero, List.getElem?_cons_succ, Mem.cell, Mem.row, cells_own, cells_ro, g0, hsl]
      exact hq none _ m (h.non _) ⟨⟨ob, od, rfl, hb, hd⟩, hw⟩ fun _ => rfl
    · rw [if_neg (fun hh => hh.elim (by rw [hov]; simp) hb0)] at hq
      have hl0 : ((b.length : Int) == 0) = false := beq_eq_false_iff_ne.2 (by omega)
      simp -implicitDefEqProofs (disch := first | assumption | omega | fail) [rc56, ro56, rc56_5, wkB, retV, stabOk, dC, ev, fillD, pickCells, putAt, bnd, slD, List.getElem?_cons_zero, List.getElem?_cons_succ, Mem.cell, Mem.row, cells_own, cells_ro, g0, hsl, hl0]
      refine SK_stS h 0 rfl (o := 3) (vs := [.int .i64 s.wait]) (cs' := rcC { s with left := s.wait } (slV ob s.buffer.length 1) (slV od s.data.length 1)) (by simp [wkB, retV, stabOk, dC, ev, fillD, pickCells, putAt, bnd, slD, List.getElem?_cons_zero, List.getElem?_cons_succ, Mem.cell, Mem.row, cells_own, cells_ro]) (by simp [wkB, retV, stabOk, dC, ev, fillD, pickCells, putAt, bnd, slD, List.getElem?_cons_zero, List.getElem?_cons_succ, Mem.cell, Mem.row, cells_own, cells_ro]) (by simp [rcC]) rfl rfl (by simp [rcC, putAt]) fun m1 h1 _ => ?_
      have g1 := h1.get 0 rfl
      simp only [rcC] at g1
      have hr1 := (hr.sep h1).sl
      simp -implicitDefEqProofs (disch := first | assumption | omega | fail) [wkB, retV, stabOk, dC, ev, fillD, pickCells, putAt, bnd, slD, List.getElem?_cons_zero, List.getElem?_cons_succ, Mem.cell, Mem.row, cells_own, cells_ro, g1]
      refine SK_apS h1 1 (n := s.buffer.length) (k := b.length) (ys := b.map byteV) rfl (by simp [wkB, retV, stabOk, dC, ev, fillD, pickCells, putAt, bnd, slD, List.getElem?_cons_zero, List.getElem?_cons_succ, Mem.cell, Mem.row, cells_own, cells_ro]) (by simp) hb (by simp [wkB, retV, stabOk, dC, ev, fillD, pickCells, putAt, bnd, slD, List.getElem?_cons_zero, List.getElem?_cons_succ, Mem.cell, Mem.row, cells_own, cells_ro]; exact hr1.elems) (by simp [wkB, retV, stabOk, dC, ev, fillD, pickCells, putAt, bnd, slD, List.getElem?_cons_zero, List.getElem?_cons_succ, Mem.cell, Mem.row, cells_own, cells_ro]; exact hr1.lenV) (byteV_oneC _) (by omega) (by unfold maxLen; omega) (by simp) fun ob2 m2 h2 hn2 _ => ?_
      simp -implicitDefEqProofs (disch := first | assumption | omega | fail) [wkB, retV, stabOk, dC, ev, fillD, pickCells, putAt, bnd, slD, List.getElem?_cons_zero, List.getElem?_cons_succ, Mem.cell, Mem.row, cells_own, cells_ro]
      refine SK_stS h2 0 rfl (o := 7) (vs := [slV ob2 (s.buffer.length + b.length) 1]) (cs' := rcC { s with left := s.wait } (slV ob2 (s.buffer.length + b.length) 1) (slV od s.data.length 1)) (by simp [wkB, retV, stabOk, dC, ev, fillD, pickCells, putAt, bnd, slD, List.getElem?_cons_zero, List.getElem?_cons_succ, Mem.cell, Mem.row, cells_own, cells_ro]) (by simp [wkB, retV, stabOk, dC, ev, fillD, pickCells, putAt, bnd, slD, List.getElem?_cons_zero, List.getElem?_cons_succ, Mem.cell, Mem.row, cells_own, cells_ro]) (by simp [rcC]) rfl (by simp [oneC_slV]) (by simp [rcC, putAt]) fun m3 h3 _ => ?_
      obtain ⟨s1, hs1⟩ : ∃ s1 : Rc, { s with left := s.wait, buffer := s.buffer ++ b } = s1 := ⟨_, rfl⟩
      have h3' : Sep m V m3 (rcH ir ob2 od s1) := by
        subst hs1
        have e6 : s.buffer.map byteV ++ b.map byteV = (s.buffer ++ b).map byteV := by simp
        have := h3
        simp only [rcH, byH, List.set, List.length_append] at this ⊢
        rw [e6] at this
        exact this
      have hw1 : RcW s1 := by subst hs1; exact ⟨hw.1, hw.2, hw.3, hw.4, hw.1, hw.2, hw.7, hw.8⟩
      have hbl : s1.buffer.length = s.buffer.length + b.length := by subst hs1; simp
      have hdl : s1.data = s.data := by subst hs1; rfl
      rw [hs1] at hq
      clear h3 hs1
      rw [← hdl] at hd hbig
      have hn1 : 0 < s1.buffer.length := by omega
      cases ob2 with
      | none => exact absurd (hn2 rfl) (by omega)
      | some k =>
        have hn2' : (some k : Option Nat) = none → s1.buffer.length = 0 := fun e => by cases e
        have g3 := h3'.get 0 rfl
        have gk := h3'.get 1 rfl
        simp only [rcC] at g3
        have hc0 := byte_at (b := s1.buffer) (k := 0) hn1
        simp only [byteV] at hc0
        have hi0 : sidx 1 (slV (some k) s1.buffer.length 1) (.int .i64 0) = some (.pointer (some ⟨k, 0, none⟩)) := by simpa [slV_some] using sidx_at (b := k) (o := 0) (n := s1.buffer.length) (c := 1) (j := 0) (sz := 1) (k := .i64) hn1
        have hl3 : slen (slV (some k) s1.buffer.length 1) = some (.int .i64 (s1.buffer.length : Nat)) := rfl
        obtain ⟨c0, hcc⟩ : ∃ c0, s1.buffer.getD 0 0 = c0 := ⟨_, rfl⟩
        have e4 : ((c0.toNat : Int) == 4) = decide (c0 = 4) := b8 c0 4 (by omega)
        have e24 : ((c0.toNat : Int) == 24) = decide (c0 = 24) := b8 c0 24 (by omega)
        unfold rPut1 at hq
        rw [hcc] at hq hc0
        obtain ⟨L, hL⟩ : ∃ L, s1.buffer.map byteV = L := ⟨_, rfl⟩
        have hc1 : 1 < s1.buffer.length → L[1]? = some (.int .u8 ((s1.buffer.getD 1 0).toNat : Int)) := fun hlt => by rw [← hL]; exact byte_at hlt
        rw [hL] at hc0 gk
        have fin : ∀ fr, fr 0 = .pointer (some ⟨ir, 0, none⟩) → RcQ V m ir (scaF s1) Q → AbW Tryz.prog w0 rc56_4 (bodyA [.mv (.tmp 4)] Q) fr m3 := fun fr t0 hq => c_rSca h3' hn2' hd hw1 hbig (by omega) t0 hq
        by_cases h4 : c0 = 4
        · subst h4
          have e4 : (((4 : UInt8).toNat : Int) == 4) = true := rfl
          have e24 : (((4 : UInt8).toNat : Int) == 24) = false := rfl
          cases hcl : s1.close with
          | true =>
            rw [if_pos ⟨rfl, hcl⟩] at hq
            rw [hcl] at g3
            simp -implicitDefEqProofs (disch := first | assumption | omega | fail) [wkB, retV, stabOk, dC, ev, fillD, pickCells, putAt, bnd, slD, List.getElem?_cons_zero, List.getElem?_cons_succ, Mem.cell, Mem.row, cells_own, cells_ro, g3, hi0, gk, hc0, getL1 hc0, e4]
            refine SK_bslS h3' (cs := ([6] : List UInt8).map byteV) (by simp [fillD, pickCells, wkB, retV, stabOk, dC, ev, fillD, pickCells, putAt, bnd, slD, List.getElem?_cons_zero, List.getElem?_cons_succ, Mem.cell, Mem.row, cells_own, cells_ro, byteV]) (by simp) fun x m4 h4 _ _ => ?_
            simp -implicitDefEqProofs (disch := first | assumption | omega | fail) [wkB, retV, stabOk, dC, ev, fillD, pickCells, putAt, bnd, slD, List.getElem?_cons_zero, List.getElem?_cons_succ, Mem.cell, Mem.row, cells_own, cells_ro]
            refine c_rEnd (s := s1) (e := 0) h4 1 rfl fun m5 h5 => ?_
            simp -implicitDefEqProofs (disch := first | assumption | omega | fail) [wkB, retV, stabOk, dC, ev, fillD, pickCells, putAt, bnd, slD, List.getElem?_cons_zero, List.getElem?_cons_succ, Mem.cell, Mem.row, cells_own, cells_ro]
            exact hq (some x) _ m5 h5 ⟨⟨some k, od, rfl, hn2', hd⟩, ⟨hw1.1, hw1.2, hw1.3, hw1.4, hw1.5, hw1.6, hw1.7, hw1.8⟩⟩ (fun e => by cases e)
          | false =>
            rw [if_neg (fun hh => by rw [hcl] at hh; cases hh.2), if_neg (fun hh => absurd hh.1 (by decide)), if_neg (fun hh => absurd hh.1 (by decide))] at hq
            rw [hcl] at g3
            simp -implicitDefEqProofs (disch := first | assumption | omega | fail) [wkB, retV, stabOk, dC, ev, fillD, pickCells, putAt, bnd, slD, List.getElem?_cons_zero, List.getElem?_cons_succ, Mem.cell, Mem.row, cells_own, cells_ro, g3, hi0, gk, hc0, getL1 hc0, e4, e24]
            exact fin _ (by simp [frA_at]) hq
        · by_cases h24 : c0 = 24
          · subst h24
            have e4 : (((24 : UInt8).toNat : Int) == 4) = false := rfl
            have e24 : (((24 : UInt8).toNat : Int) == 24) = true := rfl
            rw [if_neg (fun hh => absurd hh.1 (by decide))] at hq
            by_cases hl1 : 1 < s1.buffer.length
            · have hl1' : (1 : Int) < (s1.buffer.length : Int) := by omega
              have hl1n : ((s1.buffer.length : Int) == 1) = false := beq_eq_false_iff_ne.2 (by omega)
              have hi1 : sidx 1 (slV (some k) s1.buffer.length 1) (.int .i64 1) = some (.pointer (some ⟨k, 1, none⟩)) := by simpa [slV_some] using sidx_at (b := k) (o := 0) (n := s1.buffer.length) (c := 1) (j := 1) (sz := 1) (k := .i64) hl1
              have hc1 := hc1 hl1
              obtain ⟨c1, hcc1⟩ : ∃ c1, s1.buffer.getD 1 0 = c1 := ⟨_, rfl⟩
              rw [hcc1] at hq hc1
              have f24 : ((c1.toNat : Int) == 24) = decide (c1 = 24) := b8 c1 24 (by omega)
              by_cases h5 : c1 = 24
              · subst h5
                have f24 : (((24 : UInt8).toNat : Int) == 24) = true := rfl
                rw [if_pos ⟨rfl, hl1, rfl⟩] at hq
                simp -implicitDefEqProofs (disch := first | assumption | omega | fail) [wkB, retV, stabOk, dC, ev, fillD, pickCells, putAt, bnd, slD, List.getElem?_cons_zero, List.getElem?_cons_succ, Mem.cell, Mem.row, cells_own, cells_ro, g3, hi0, gk, hc0, getL1 hc0, e4, e24, hl3, hl1', hi1, hc1, getL1 hc1]
                refine c_rEnd (s := s1) (e := 9) h3' 0 rfl fun m5 h5 => ?_
                simp -implicitDefEqProofs (disch := first | assumption | omega | fail) [wkB, retV, stabOk, dC, ev, fillD, pickCells, putAt, bnd, slD, List.getElem?_cons_zero, List.getElem?_cons_succ, Mem.cell, Mem.row, cells_own, cells_ro]
                exact hq none _ m5 (h5.non _) ⟨⟨some k, od, rfl, hn2', hd⟩, ⟨hw1.1, hw1.2, hw1.3, hw1.4, hw1.5, hw1.6, hw1.7, hw1.8⟩⟩ (fun e => rfl)
              · have f24 : ((c1.toNat : Int) == 24) = false := by rw [f24]; simp [h5]
                rw [if_neg (fun hh => h5 hh.2.2), if_neg (fun hh => by omega)] at hq
                simp -implicitDefEqProofs (disch := first | assumption | omega | fail) [wkB, retV, stabOk, dC, ev, fillD, pickCells, putAt, bnd, slD, List.getElem?_cons_zero, List.getElem?_cons_succ, Mem.cell, Mem.row, cells_own, cells_ro, g3, hi0, gk, hc0, getL1 hc0, e4, e24, hl3, hl1', hi1, hc1, getL1 hc1, f24, hl1n]
                exact fin _ (by simp [frA_at]) hq
            · have hl1' : ¬ (1 : Int) < (s1.buffer.length : Int) := by omega
              have hl1n : ((s1.buffer.length : Int) == 1) = true := beq_iff_eq.2 (by omega)
              rw [if_neg (fun hh => hl1 hh.2.1), if_pos ⟨rfl, by omega⟩] at hq
              simp -implicitDefEqProofs (disch := first | assumption | omega | fail) [wkB, retV, stabOk, dC, ev, fillD, pickCells, putAt, bnd, slD, List.getElem?_cons_zero, List.getElem?_cons_succ, Mem.cell, Mem.row, cells_own, cells_ro, g3, hi0, gk, hc0, getL1 hc0, e4, e24, hl3, hl1', hl1n]
              exact hq none _ m3 (h3'.non _) ⟨⟨some k, od, rfl, hn2', hd⟩, hw1⟩ (fun _ => rfl)
          · have e4 : ((c0.toNat : Int) == 4) = false := by rw [e4]; simp [h4]
            have e24 : ((c0.toNat : Int) == 24) = false := by rw [e24]; simp [h24]
            rw [if_neg (fun hh => h4 hh.1), if_neg (fun hh => h24 hh.1), if_neg (fun hh => h24 hh.1)] at hq
            simp -implicitDefEqProofs (disch := first | assumption | omega | fail) [wkB, retV, stabOk, dC, ev, fillD, pickCells, putAt, bnd, slD, List.getElem?_cons_zero, List.getElem?_cons_succ, Mem.cell, Mem.row, cells_own, cells_ro, g3, hi0, gk, hc0, getL1 hc0, e4, e24]
            exact fin _ (by simp [frA_at]) hq
end Go.Proofs.YthmhappejchilaaGreatDoor.Ab

set_option linter.unusedVariables false
set_option linter.unusedSimpArgs false
namespace Go.Proofs.YthmhappejchilaaGreatDoor.Ab
open Go Go.RowKit
set_option maxHeartbeats 4000000
set_option maxRecDepth 100000
def rTickF (s : Rc) : Rc × List UInt8 :=
  if s.over = true then (s, [])
  else if 1 < s.left then ({ s with left := s.left - 1 }, [])
  else if s.begun = true then ({ s with left := s.wait, buffer := [] }, [21])
  else if s.tries = 0 then ({ s with left := s.wait, buffer := [], over := true, err := 10 }, [24, 24])
  else ({ s with left := s.wait, buffer := [], tries := s.tries - 1 }, [if s.crc = true then 67 else 21])
theorem c_rAsk {w0 : World} {V : Nat → Prop} {m0 m : Mem} {l : HL} {ir : Nat} {s : Rc} {vb vd : Value} {Q : Value → Mem → Prop} (h : Sep m0 V m l) (q : Nat) (hl : l[q]? = some (some ir, .own (rcC s vb vd) 114))
    (hq : Q (.int .u8 (((if s.crc = true ∧ s.begun = false then 67 else 21 : UInt8)).toNat : Int)) m) : AbC Tryz.prog w0 80 [.pointer (some ⟨ir, 0, none⟩)] m Q := by
  refine AbC_fn ok80 (by simp) ?_
  have g0 := h.get q hl
  simp only [rcC] at g0
  cases hc : s.crc
  all_goals cases hb : s.begun
  all_goals
    rw [hc, hb] at hq g0
    simp -implicitDefEqProofs (disch := first | assumption | omega | fail) [rc80, ro80, rc80_0, wkB, retV, stabOk, dC, ev, fillD, pickCells, putAt, bnd, slD, List.getElem?_cons_zero, List.getElem?_cons_succ, Mem.cell, Mem.row, cells_own, cells_ro, g0]
    exact hq
theorem c_rTick {w0 : World} {V : Nat → Prop} {m : Mem} {H : HL} {ir : Nat} {s : Rc} {Q : Value → Mem → Prop} (h : Sep m V m H) (hR : RcR H ir s) (hq : RcQ V m ir (rTickF s) Q) :
    AbC Tryz.prog w0 52 [.pointer (some ⟨ir, 0, none⟩)] m Q := by
  refine AbC_fn ok52 (by simp) ?_
  obtain ⟨⟨ob, od, rfl, hb, hd⟩, hw⟩ := hR
  have g0 := h.get 0 rfl
  simp only [rcC] at g0
  unfold rTickF at hq
  cases hov : s.over with
  | true =>
    rw [if_pos hov] at hq
    rw [hov] at g0
    simp -implicitDefEqProofs (disch := first | assumption | omega | fail) [rc52, ro52, wkB, retV, stabOk, dC, ev, fillD, pickCells, putAt, bnd, slD, List.getElem?_cons_zero, List.getElem?_cons_succ, Mem.cell, Mem.row, cells_own, cells_ro, g0]
    exact hq none _ m (h.non _) ⟨⟨ob, od, rfl, hb, hd⟩, hw⟩ fun _ => rfl
  | false =>
    rw [if_neg (by rw [hov]; simp)] at hq
    rw [hov] at g0
    have hl1 := hw.l1
    have hl2 := hw.l2
    have w1 : IntKind.i64.wrap (s.left - 1) = s.left - 1 := w64 (by omega)
    simp -implicitDefEqProofs (disch := first | assumption | omega | fail) [rc52, ro52, rc52_3, wkB, retV, stabOk, dC, ev, fillD, pickCells, putAt, bnd, slD, List.getElem?_cons_zero, List.getElem?_cons_succ, Mem.cell, Mem.row, cells_own, cells_ro, g0, w1]
    refine SK_stS h 0 rfl (o := 3) (vs := [.int .i64 (s.left - 1)]) (cs' := rcC { s with left := s.left - 1 } (slV ob s.buffer.length 1) (slV od s.data.length 1)) (by simp [wkB, retV, stabOk, dC, ev, fillD, pickCells, putAt, bnd, slD, List.getElem?_cons_zero, List.getElem?_cons_succ, Mem.cell, Mem.row, cells_own, cells_ro]) (by simp [wkB, retV, stabOk, dC, ev, fillD, pickCells, putAt, bnd, slD, List.getElem?_cons_zero, List.getElem?_cons_succ, Mem.cell, Mem.row, cells_own, cells_ro]) (by simp [rcC]) rfl rfl (by simp [rcC, putAt]) fun m1 h1 _ => ?_
    have g1 := h1.get 0 rfl
    simp only [rcC] at g1
    by_cases hl : 1 < s.left
    · rw [if_pos hl] at hq
      simp -implicitDefEqProofs (disch := first | assumption | omega | fail) [wkB, retV, stabOk, dC, ev, fillD, pickCells, putAt, bnd, slD, List.getElem?_cons_zero, List.getElem?_cons_succ, Mem.cell, Mem.row, cells_own, cells_ro, g1, hl]
      exact hq none _ m1 (h1.non _) ⟨⟨ob, od, rfl, hb, hd⟩, ⟨hw.1, hw.2, hw.3, hw.4, by show 1 ≤ s.left - 1; omega, by show s.left - 1 ≤ 99; omega, hw.7, hw.8⟩⟩ fun _ => rfl
    · rw [if_neg hl] at hq
      simp -implicitDefEqProofs (disch := first | assumption | omega | fail) [wkB, retV, stabOk, dC, ev, fillD, pickCells, putAt, bnd, slD, List.getElem?_cons_zero, List.getElem?_cons_succ, Mem.cell, Mem.row, cells_own, cells_ro, g1, hl, rc52_2]
      refine SK_stS h1 0 rfl (o := 3) (vs := [.int .i64 s.wait]) (cs' := rcC { s with left := s.wait } (slV ob s.buffer.length 1) (slV od s.data.length 1)) (by simp [wkB, retV, stabOk, dC, ev, fillD, pickCells, putAt, bnd, slD, List.getElem?_cons_zero, List.getElem?_cons_succ, Mem.cell, Mem.row, cells_own, cells_ro]) (by simp [wkB, retV, stabOk, dC, ev, fillD, pickCells, putAt, bnd, slD, List.getElem?_cons_zero, List.getElem?_cons_succ, Mem.cell, Mem.row, cells_own, cells_ro]) (by simp [rcC]) rfl rfl (by simp [rcC, putAt]) fun m2 h2 _ => ?_
      simp -implicitDefEqProofs (disch := first | assumption | omega | fail) [wkB, retV, stabOk, dC, ev, fillD, pickCells, putAt, bnd, slD, List.getElem?_cons_zero, List.getElem?_cons_succ, Mem.cell, Mem.row, cells_own, cells_ro]
      refine SK_stS h2 0 rfl (o := 7) (vs := [.slice none 0 0]) (cs' := rcC { s with left := s.wait, buffer := [] } (.slice none 0 0) (slV od s.data.length 1)) (by simp [wkB, retV, stabOk, dC, ev, fillD, pickCells, putAt, bnd, slD, List.getElem?_cons_zero, List.getElem?_cons_succ, Mem.cell, Mem.row, cells_own, cells_ro]) (by simp [wkB, retV, stabOk, dC, ev, fillD, pickCells, putAt, bnd, slD, List.getElem?_cons_zero, List.getElem?_cons_succ, Mem.cell, Mem.row, cells_own, cells_ro]) (by simp [rcC]) rfl rfl (by simp [rcC, putAt]) fun m3 h3 _ => ?_
      have h3 : Sep m V m3 (rcH ir none od { s with left := s.wait, buffer := [] }) := h3.nul 1 (.own [] 5)
      have g3 := h3.get 0 rfl
      simp only [rcC] at g3
      cases hbg : s.begun with
      | true =>
        rw [if_pos hbg] at hq
        rw [hbg] at g3
        simp -implicitDefEqProofs (disch := first | assumption | omega | fail) [wkB, retV, stabOk, dC, ev, fillD, pickCells, putAt, bnd, slD, List.getElem?_cons_zero, List.getElem?_cons_succ, Mem.cell, Mem.row, cells_own, cells_ro, g3, rc52_1, rc52_0]
        refine c_rAsk (s := { s with left := s.wait, buffer := [] }) h3 0 rfl ?_
        rw [if_neg (fun hh => by have := hh.2; rw [hbg] at this; cases this)]
        simp -implicitDefEqProofs (disch := first | assumption | omega | fail) [wkB, retV, stabOk, dC, ev, fillD, pickCells, putAt, bnd, slD, List.getElem?_cons_zero, List.getElem?_cons_succ, Mem.cell, Mem.row, cells_own, cells_ro]
        refine SK_bslS h3 (cs := ([21] : List UInt8).map byteV) (by simp [fillD, pickCells, wkB, retV, stabOk, dC, ev, fillD, pickCells, putAt, bnd, slD, List.getElem?_cons_zero, List.getElem?_cons_succ, Mem.cell, Mem.row, cells_own, cells_ro, byteV]) (by simp) fun x m4 h4 _ _ => ?_
        simp -implicitDefEqProofs (disch := first | assumption | omega | fail) [wkB, retV, stabOk, dC, ev, fillD, pickCells, putAt, bnd, slD, List.getElem?_cons_zero, List.getElem?_cons_succ, Mem.cell, Mem.row, cells_own, cells_ro]
        exact hq (some x) _ m4 h4 ⟨⟨none, od, rfl, fun _ => rfl, hd⟩, ⟨hw.1, hw.2, hw.3, hw.4, hw.1, hw.2, hw.7, hw.8⟩⟩ (fun e => by cases e)
      | false =>
        rw [if_neg (by rw [hbg]; simp)] at hq
        rw [hbg] at g3
        by_cases ht : s.tries = 0
        · rw [if_pos ht] at hq
          simp -implicitDefEqProofs (disch := first | assumption | omega | fail) [wkB, retV, stabOk, dC, ev, fillD, pickCells, putAt, bnd, slD, List.getElem?_cons_zero, List.getElem?_cons_succ, Mem.cell, Mem.row, cells_own, cells_ro, g3, ht]
          refine SK_bslS h3 (cs := ([24, 24] : List UInt8).map byteV) (by simp [fillD, pickCells, wkB, retV, stabOk, dC, ev, fillD, pickCells, putAt, bnd, slD, List.getElem?_cons_zero, List.getElem?_cons_succ, Mem.cell, Mem.row, cells_own, cells_ro, byteV]) (by simp) fun x m4 h4 _ _ => ?_
          simp -implicitDefEqProofs (disch := first | assumption | omega | fail) [wkB, retV, stabOk, dC, ev, fillD, pickCells, putAt, bnd, slD, List.getElem?_cons_zero, List.getElem?_cons_succ, Mem.cell, Mem.row, cells_own, cells_ro]
          refine c_rEnd (s := { s with left := s.wait, buffer := [] }) (e := 10) h4 1 rfl fun m5 h5 => ?_
          simp -implicitDefEqProofs (disch := first | assumption | omega | fail) [wkB, retV, stabOk, dC, ev, fillD, pickCells, putAt, bnd, slD, List.getElem?_cons_zero, List.getElem?_cons_succ, Mem.cell, Mem.row, cells_own, cells_ro]
          exact hq (some x) _ m5 h5 ⟨⟨none, od, rfl, fun _ => rfl, hd⟩, ⟨hw.1, hw.2, hw.3, hw.4, hw.1, hw.2, hw.7, hw.8⟩⟩ (fun e => by cases e)
        · rw [if_neg ht] at hq
          have ht' : (s.tries == 0) = false := beq_eq_false_iff_ne.2 ht
          have ht1 := hw.t1
          have ht2 := hw.t2
          have w2 : IntKind.i64.wrap (s.tries - 1) = s.tries - 1 := w64 (by omega)
          simp -implicitDefEqProofs (disch := first | assumption | omega | fail) [wkB, retV, stabOk, dC, ev, fillD, pickCells, putAt, bnd, slD, List.getElem?_cons_zero, List.getElem?_cons_succ, Mem.cell, Mem.row, cells_own, cells_ro, g3, ht', rc52_1, w2]
          refine SK_stS h3 0 rfl (o := 2) (vs := [.int .i64 (s.tries - 1)]) (cs' := rcC { s with left := s.wait, buffer := [], tries := s.tries - 1 } (.slice none 0 0) (slV od s.data.length 1)) (by simp [wkB, retV, stabOk, dC, ev, fillD, pickCells, putAt, bnd, slD, List.getElem?_cons_zero, List.getElem?_cons_succ, Mem.cell, Mem.row, cells_own, cells_ro]) (by simp [wkB, retV, stabOk, dC, ev, fillD, pickCells, putAt, bnd, slD, List.getElem?_cons_zero, List.getElem?_cons_succ, Mem.cell, Mem.row, cells_own, cells_ro]) (by simp [rcC]) rfl rfl (by simp [rcC, putAt]; rfl) fun m4 h4 _ => ?_
          simp -implicitDefEqProofs (disch := first | assumption | omega | fail) [wkB, retV, stabOk, dC, ev, fillD, pickCells, putAt, bnd, slD, List.getElem?_cons_zero, List.getElem?_cons_succ, Mem.cell, Mem.row, cells_own, cells_ro, rc52_0]
          refine c_rAsk (s := { s with left := s.wait, buffer := [], tries := s.tries - 1 }) h4 0 rfl ?_
          have e9 : (if ({ s with left := s.wait, buffer := [], tries := s.tries - 1 } : Rc).crc = true ∧ ({ s with left := s.wait, buffer := [], tries := s.tries - 1 } : Rc).begun = false then (67 : UInt8) else 21) = if s.crc = true then 67 else 21 := by simp [hbg]
          rw [e9]
          generalize (if s.crc = true then (67 : UInt8) else 21) = cc at *
          simp -implicitDefEqProofs (disch := first | assumption | omega | fail) [wkB, retV, stabOk, dC, ev, fillD, pickCells, putAt, bnd, slD, List.getElem?_cons_zero, List.getElem?_cons_succ, Mem.cell, Mem.row, cells_own, cells_ro]
          refine SK_bslS h4 (cs := ([cc] : List UInt8).map byteV) (by simp [fillD, pickCells, wkB, retV, stabOk, dC, ev, fillD, pickCells, putAt, bnd, slD, List.getElem?_cons_zero, List.getElem?_cons_succ, Mem.cell, Mem.row, cells_own, cells_ro, byteV]) (by simp) fun x m5 h5 _ _ => ?_
          simp -implicitDefEqProofs (disch := first | assumption | omega | fail) [wkB, retV, stabOk, dC, ev, fillD, pickCells, putAt, bnd, slD, List.getElem?_cons_zero, List.getElem?_cons_succ, Mem.cell, Mem.row, cells_own, cells_ro]
          exact hq (some x) _ m5 h5 ⟨⟨none, od, rfl, fun _ => rfl, hd⟩, ⟨hw.1, hw.2, by show 0 ≤ s.tries - 1; omega, by show s.tries - 1 ≤ 9; omega, hw.1, hw.2, hw.7, hw.8⟩⟩ (fun e => by cases e)
theorem c_rDone {w0 : World} {V : Nat → Prop} {m0 m : Mem} {l : HL} {ir : Nat} {s : Rc} {vb vd : Value} {Q : Value → Mem → Prop} (h : Sep m0 V m l) (q : Nat) (hl : l[q]? = some (some ir, .own (rcC s vb vd) 114))
    (hq : Q (.tuple ⟨[.bool s.over, errV s.err]⟩) m) : AbC Tryz.prog w0 75 [.pointer (some ⟨ir, 0, none⟩)] m Q := by
  refine AbC_fn ok75 (by simp) ?_
  have g0 := h.get q hl
  simp only [rcC] at g0
  simp -implicitDefEqProofs (disch := first | assumption | omega | fail) [rc75, ro75, wkB, retV, stabOk, dC, ev, fillD, pickCells, putAt, bnd, slD, List.getElem?_cons_zero, List.getElem?_cons_succ, Mem.cell, Mem.row, cells_own, cells_ro, g0]
  exact hq
theorem c_rData {w0 : World} {V : Nat → Prop} {m : Mem} {H : HL} {ir : Nat} {s : Rc} {Q : Value → Mem → Prop} (h : Sep m V m H) (hR : RcR H ir s) (hbig : s.data.length ≤ 140737488355328)
    (hq : ∀ oo M, Sep m V M (byH oo s.data :: H) → (oo = none → s.data.length = 0) → Q (slV oo s.data.length 1) M) : AbC Tryz.prog w0 77 [.pointer (some ⟨ir, 0, none⟩)] m Q := by
  refine AbC_fn ok77 (by simp) ?_
  obtain ⟨⟨ob, od, rfl, hb, hd⟩, hw⟩ := hR
  have g0 := h.get 0 rfl
  simp only [rcC] at g0
  have hO := (h.slO 2 (k := s.data.length) (sz := 1) rfl (by simp) hd).read
  simp -implicitDefEqProofs (disch := first | assumption | omega | fail) [rc77, ro77, wkB, retV, stabOk, dC, ev, fillD, pickCells, putAt, bnd, slD, List.getElem?_cons_zero, List.getElem?_cons_succ, Mem.cell, Mem.row, cells_own, cells_ro, g0]
  refine SK_nwS h (k := s.data.length) (ys := s.data.map byteV) (by simp [wkB, retV, stabOk, dC, ev, fillD, pickCells, putAt, bnd, slD, List.getElem?_cons_zero, List.getElem?_cons_succ, Mem.cell, Mem.row, cells_own, cells_ro]) (by simp [wkB, retV, stabOk, dC, ev, fillD, pickCells, putAt, bnd, slD, List.getElem?_cons_zero, List.getElem?_cons_succ, Mem.cell, Mem.row, cells_own, cells_ro]; exact hO.elems) (by simp [wkB, retV, stabOk, dC, ev, fillD, pickCells, putAt, bnd, slD, List.getElem?_cons_zero, List.getElem?_cons_succ, Mem.cell, Mem.row, cells_own, cells_ro]; exact hO.lenV) (byteV_oneC _) (by omega) (by unfold maxLen; omega) (by simp) fun oo m1 h1 hn1 _ => ?_
  simp -implicitDefEqProofs (disch := first | assumption | omega | fail) [wkB, retV, stabOk, dC, ev, fillD, pickCells, putAt, bnd, slD, List.getElem?_cons_zero, List.getElem?_cons_succ, Mem.cell, Mem.row, cells_own, cells_ro]
  exact hq oo m1 h1 hn1
def clampI (lo hi x : Int) : Int := if lo < (if hi < x then hi else x) then (if hi < x then hi else x) else lo
def rOf (tr wt : Int) (n : UInt8) (crc close : Bool) (many : Int) : Rc := ⟨crc, clampI 1 99 wt, clampI 1 9 tr, 1, n, false, close, [], [], 0, if 1 < many then many else 1, false, 0⟩
theorem c_rOf {w0 : World} {V : Nat → Prop} {m0 m : Mem} {l : HL} {tr wt many : Int} {n : UInt8} {crc close : Bool} {Q : Value → Mem → Prop} (h : Sep m0 V m l)
    (hq : ∀ ir H M, Sep m0 V M (H ++ l) → RcR H ir (rOf tr wt n crc close many) → Q (.pointer (some ⟨ir, 0, none⟩)) M) :
    AbC Tryz.prog w0 42 [.agg ⟨[.int .i64 tr, .int .i64 wt]⟩, .int .u8 (n.toNat : Int), .bool crc, .bool close, .int .i64 many] m Q := by
  refine AbC_fn ok42 (by simp) ?_
  simp -implicitDefEqProofs (disch := first | assumption | omega | fail) [rc42, ro42, wkB, retV, stabOk, dC, ev, fillD, pickCells, putAt, bnd, slD, List.getElem?_cons_zero, List.getElem?_cons_succ, Mem.cell, Mem.row, cells_own, cells_ro]
  refine SK_bxS h (cs := [.int .i64 tr, .int .i64 wt]) (by simp [wkB, retV, stabOk, dC, ev, fillD, pickCells, putAt, bnd, slD, List.getElem?_cons_zero, List.getElem?_cons_succ, Mem.cell, Mem.row, cells_own, cells_ro]) fun B m1 h1 _ _ => ?_
  have g1 := h1.get 0 rfl
  simp -implicitDefEqProofs (disch := first | assumption | omega | fail) [wkB, retV, stabOk, dC, ev, fillD, pickCells, putAt, bnd, slD, List.getElem?_cons_zero, List.getElem?_cons_succ, Mem.cell, Mem.row, cells_own, cells_ro, g1]
  refine SK_bxS h1 (cs := rcC (rOf tr wt n crc close many) (.slice none 0 0) (.slice none 0 0)) (by simp [wkB, retV, stabOk, dC, ev, fillD, pickCells, putAt, bnd, slD, List.getElem?_cons_zero, List.getElem?_cons_succ, Mem.cell, Mem.row, cells_own, cells_ro, rcC, rOf, clampI]; rfl) fun ir m2 h2 _ _ => ?_
  simp -implicitDefEqProofs (disch := first | assumption | omega | fail) [wkB, retV, stabOk, dC, ev, fillD, pickCells, putAt, bnd, slD, List.getElem?_cons_zero, List.getElem?_cons_succ, Mem.cell, Mem.row, cells_own, cells_ro]
  have h3 : Sep m0 V m2 (rcH ir none none (rOf tr wt n crc close many) ++ l) := ((((h2.del 1).non (.own [] 5)).non (.own [] 5)).perm (by
    show List.Perm ((none, .own [] 5) :: (none, .own [] 5) :: (some ir, .own (rcC (rOf tr wt n crc close many) (.slice none 0 0) (.slice none 0 0)) 114) :: l) ((some ir, .own (rcC (rOf tr wt n crc close many) (.slice none 0 0) (.slice none 0 0)) 114) :: (none, .own [] 5) :: (none, .own [] 5) :: l)
    exact ((List.Perm.swap _ _ _).cons _).trans (List.Perm.swap _ _ _) |>.trans ((List.Perm.swap _ _ _).cons _)))
  have a1 : 1 ≤ clampI 1 99 wt ∧ clampI 1 99 wt ≤ 99 := by unfold clampI; split <;> split at * <;> omega
  have a2 : 1 ≤ clampI 1 9 tr ∧ clampI 1 9 tr ≤ 9 := by unfold clampI; split <;> split at * <;> omega
  exact hq ir _ m2 h3 ⟨⟨none, none, rfl, fun _ => rfl, fun _ => rfl⟩, ⟨a1.1, a1.2, by show 0 ≤ clampI 1 9 tr; omega, a2.2, by show (1 : Int) ≤ 1; omega, by show (1 : Int) ≤ 99; omega, by show (0 : Int) ≤ 0; omega, by show (0 : Int) ≤ 0; omega⟩⟩
end Go.Proofs.YthmhappejchilaaGreatDoor.Ab
