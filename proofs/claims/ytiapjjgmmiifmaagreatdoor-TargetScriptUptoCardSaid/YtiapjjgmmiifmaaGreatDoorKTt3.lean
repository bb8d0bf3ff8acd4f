/- Parts of a proof, put together: The resolved codes of the functions that are walked, and that the program has them. -/
import Derived.Test.YtiapjjgmmiifmaaGreatDoorKTt2
import Derived.Test.YtiapjjgmmiifmaaGreatDoorProg
import Derived.KernelRfl
set_option maxHeartbeats 4000000
namespace Go.Proofs.YtiapjjgmmiifmaaGreatDoor.Ab
open Go Go.RowKit
abbrev zt (n : Nat) : Operand := .tmp n
abbrev zi (n : Int) : Operand := .const (.int .i64 n)
abbrev zr (n : Nat) (x : RO) : Sp := ⟨some n, none, .r x, []⟩
abbrev za (n : Nat) (x : Operand) : Sp := ⟨some n, none, .a x, []⟩
abbrev zf (n : Nat) (x : EO) : Sp := ⟨some n, none, .e x, []⟩
abbrev ze (x : EO) : Sp := ⟨none, none, .e x, []⟩
abbrev zg (n c : Nat) (b : Bool) (x : RO) : Sp := ⟨some n, some (c, b), .r x, []⟩
abbrev zc (n f : Nat) (l : List Operand) : Sp := ⟨some n, none, .c (.fn f l), []⟩
/-- The zero memory of a board. -/
noncomputable def zst : List Value := cellsV (Option.getD (TypeInfo.zero Tryz.t75) .nilIface)
def rc8_0 : RC := (.seq (.run [zr 62 (.mv (zt 11)), zr 63 (.lens (zt 62)), zr 64 (.bin .rem (zt 63) (zi 3)), zr 65 (.cvi .u8 (zt 64)), zr 66 (.bin .add (zt 65) (.const (.int .u8 1))), za 7 (zt 66)])
  (.seq (.run [zr 67 (.mv (zt 10)), zr 68 (.mv (zt 11)), zr 69 (.bin .neq (zt 67) (zt 68)), zr 70 (.mv (zt 69)), zg 71 70 false (.mv (zt 6)), zg 72 70 false (.mv (zt 5)), ⟨(some 73), (some (70, false)), (.c (.fn 25 [(zt 71), (zt 72)])), []⟩, zg 74 70 false (.not (zt 73)), zr 75 (.pick (zt 70) (.const (.bool true)) (zt 74))])
  (.cond (zt 75)
  (.seq (.run [za 4 (.const (.bool false))])
  .ret)
  .skip)))
def rc8_1 : RC := (.seq (.block 1 (.seq (.run [zr 41 (.ia 10 (zt 37) (zt 39)), zr 42 (.ldn 10 (zt 41)), zf 9 (.al [(.int .u8 0), (.int .u8 0), (.int .u16 0), (.int .u16 0), (.slice none 0 0), (.int .u8 0), (.int .u8 0), (.slice none 0 0), (.int .u16 0), (.int .u8 0)] 64), ze (.st 10 (zt 9) (zt 42))])
  (.seq (.run [za 10 (.const (.string ⟨#[]⟩)), za 11 (.const (.string ⟨#[]⟩))])
  (.seq (.seq (.run [zr 43 (.fa 0 (zt 9)), zr 44 (.ld (zt 43)), zr 45 (.bin .rem (zt 44) (.const (.int .u8 8))), zr 46 (.bin .eql (zt 45) (.const (.int .u8 7)))])
  (.cond (zt 46)
  (.run [zr 47 (.mv (zt 5)), zr 50 (.mv (zt 6)), zc 48 22 [(zt 47)], zr 49 (.b2s (zt 48)), ⟨(some 51), none, (.c (.fn 26 [(zt 50)])), [(49, none, .b2s (zt 48))]⟩, za 10 (zt 49), za 11 (zt 51)])
  (.seq (.run [zr 52 (.ldn 10 (zt 9)), zr 53 (.mv (zt 7)), zc 54 23 [(zt 52), (zt 53)], za 12 (zt 54)])
  (.run [zr 55 (.mv (zt 5)), zr 56 (.mv (zt 12)), zr 59 (.mv (zt 6)), zr 60 (.mv (zt 12)), zc 57 12 [(zt 55), (zt 56)], zr 58 (.b2s (zt 57)), ⟨(some 61), none, (.c (.fn 27 [(zt 59), (zt 60)])), [(58, none, .b2s (zt 57))]⟩, za 10 (zt 58), za 11 (zt 61)]))))
  rc8_0))))
  (.run [zr 76 (.bin .add (zt 39) (zi 1)), zr 39 (.mv (zt 76))]))
def rc8_2 : RC := (.seq (.run [zr 40 (.bin .lss (zt 39) (zt 38))])
  (.seq (.cond (zt 40)
  .skip
  (.exit 0))
  rc8_1))
def rc8_3 : RC := (.seq (.run [za 4 (.const (.bool true))])
  .ret)
def rc8_4 : RC := (.seq (.run [za 7 (.const (.int .u8 1))])
  (.seq (.seq (.run [zr 37 (.mv (zt 1)), zr 38 (.lenl (zt 37)), zr 39 (.mv (zi 0))])
  (.block 0 (.loop rc8_2)))
  rc8_3))
def rc8_5 : RC := (.seq (.run [zr 15 (.fa 1 (zt 2)), zr 16 (.ld (zt 15)), zr 17 (.bin .rem (zt 16) (zi 5)), zr 18 (.bin .add (zt 17) (zi 5)), zr 19 (.bin .rem (zt 18) (zi 5)), zr 20 (.bin .add (zi 1) (zt 19)), zr 21 (.fa 1 (zt 2)), ze (.st 1 (zt 21) (zt 20))])
  (.seq (.run [zr 22 (.ldn 2 (zt 2)), zr 24 (.ldn 2 (zt 2)), ⟨(some 23), none, (.c (.fn 10 [(zt 22)])), [(24, none, .ldn 2 (zt 2))]⟩, zc 25 24 [(zt 24)], za 5 (zt 23), za 6 (zt 25)])
  (.seq (.seq (.run [zr 26 (.mv (zt 5)), zr 27 (.nck (zt 26)), zr 28 (.fa 0 (zt 27)), zr 29 (.ld (zt 28)), zr 30 (.eq false .ptr (zt 29) (.const (.pointer none))), zr 31 (.mv (zt 30)), zg 32 31 false (.mv (zt 6)), zg 33 31 false (.mv (zt 5)), ⟨(some 34), (some (31, false)), (.c (.fn 25 [(zt 32), (zt 33)])), []⟩, zg 35 31 false (.not (zt 34)), zr 36 (.pick (zt 31) (.const (.bool true)) (zt 35))])
  (.cond (zt 36)
  (.seq (.run [za 4 (.const (.bool false))])
  .ret)
  .skip))
  rc8_4)))
def rc8 : RC := (.seq (.run [zf 2 (.bx 28 (zt 0)), za 4 (.const (.bool false))])
  (.seq (.seq (.run [zc 13 9 [], zr 14 (.not (zt 13))])
  (.cond (zt 14)
  (.seq (.run [za 4 (.const (.bool false))])
  .ret)
  .skip))
  rc8_5))
def ce8 : List (Nat × List Nat × List Nat) := [(4, [0, 2, 1, 3, 4, 5], [0, 1, 0, 7, 15, 31]), (13, [0, 3, 1, 2, 4, 5, 6], [0, 1, 3, 0, 11, 31, 63]), (15, [0, 1, 4, 5, 2, 3, 6, 7, 8], [0, 0, 3, 7, 0, 0, 55, 127, 255])]
def ro8 : List RO := [(.mv (zt 4))]
theorem ok8 : okFn Tryz.prog 8 77 ce8 = some (rc8, ro8) := by kernel_rfl
def rc9_0 : RC := (.seq (.run [zr 16 (.mv (zt 1)), zf 17 (.bsl 5 1 1 [(.int .u8 0)] [(0, 1, (.const (.int .u8 120)))]), zc 18 12 [(zt 16), (zt 17)], za 2 (zt 18)])
  (.seq (.run [zr 19 (.mv (zt 1)), zf 20 (.bsl 5 1 8 [(.int .u8 0), (.int .u8 0), (.int .u8 0), (.int .u8 0), (.int .u8 0), (.int .u8 0), (.int .u8 0), (.int .u8 0)] [(0, 1, (.const (.int .u8 115))), (1, 1, (.const (.int .u8 117))), (2, 1, (.const (.int .u8 109))), (3, 1, (.const (.int .u8 32))), (4, 1, (.const (.int .u8 48))), (5, 1, (.const (.int .u8 32))), (6, 1, (.const (.int .u8 51))), (7, 1, (.const (.int .u8 13)))]), zf 21 (.cvm 5 (zt 20)), zc 22 12 [(zt 19), (zt 21)], za 3 (zt 22)])
  (.seq (.run [zr 23 (.mv (zt 1)), zc 24 15 [(zt 23)], za 4 (zt 24)])
  (.seq (.run [zr 25 (.mv (zt 2)), zr 26 (.b2s (zt 25)), zr 27 (.bin .eql (zt 26) (.const (.string ⟨#[13, 10, 61, 62, 32]⟩))), zr 28 (.mv (zt 27)), zg 29 28 true (.mv (zt 4)), zg 30 28 true (.lenl (zt 29)), zg 31 28 true (.bin .eql (zt 30) (zi 1)), zr 32 (.pick (zt 28) (zt 31) (.const (.bool false))), zr 33 (.mv (zt 32)), zg 34 33 true (.mv (zt 4)), zg 35 33 true (.ia 3 (zt 34) (zi 0)), zg 36 33 true (.fa 1 (zt 35)), zg 37 33 true (.ld (zt 36)), zg 38 33 true (.bin .eql (zt 37) (zi 3)), zr 39 (.pick (zt 33) (zt 38) (.const (.bool false))), zr 40 (.mv (zt 39)), zg 41 40 true (.mv (zt 3)), zg 42 40 true (.b2s (zt 41)), zg 43 40 true (.mv (zt 4)), zg 44 40 true (.ia 3 (zt 43) (zi 0)), zg 45 40 true (.ldn 3 (zt 44)), ⟨(some 46), (some (40, true)), (.c (.fn 17 [(zt 45)])), [(42, (some (40, true)), .b2s (zt 41))]⟩, zg 47 40 true (.bin .add (zt 46) (.const (.string ⟨#[61, 62, 32]⟩))), zg 48 40 true (.bin .eql (zt 42) (zt 47)), zr 49 (.pick (zt 40) (zt 48) (.const (.bool false))), za 0 (zt 49)])
  .ret))))
def rc9 : RC := (.seq (.run [za 0 (.const (.bool false))])
  (.seq (.run [zr 5 (.bld [(.int .i64 0), (.int .i64 0)] [(0, 1, (zi 3)), (1, 1, (zi 5))]), zc 6 10 [(zt 5)], za 1 (zt 6)])
  (.seq (.seq (.run [zr 7 (.mv (zt 1)), zr 8 (.eq false .ptr (zt 7) (.const (.pointer none))), zr 9 (.mv (zt 8)), zg 10 9 false (.mv (zt 1)), zg 11 9 false (.nck (zt 10)), zg 12 9 false (.fa 0 (zt 11)), zg 13 9 false (.ld (zt 12)), zg 14 9 false (.eq false .ptr (zt 13) (.const (.pointer none))), zr 15 (.pick (zt 9) (.const (.bool true)) (zt 14))])
  (.cond (zt 15)
  (.seq (.run [za 0 (.const (.bool false))])
  .ret)
  .skip))
  rc9_0)))
def ce9 : List (Nat × List Nat × List Nat) := [(7, [0, 1, 2, 3, 4, 5, 6, 7, 8, 9, 10, 11, 12, 13, 14, 15, 16, 17, 18, 19, 20, 21, 22, 23, 24, 25], [0, 1, 3, 7, 15, 31, 63, 127, 255, 511, 1023, 2047, 4095, 8191, 16383, 32767, 65535, 131071, 65535, 327679, 851967, 1900543, 3997695, 8388607, 16777215, 33554431])]
def ro9 : List RO := [(.mv (zt 0))]
theorem ok9 : okFn Tryz.prog 9 50 ce9 = some (rc9, ro9) := by kernel_rfl
noncomputable def rc10 : RC := (.seq (.run [zf 1 (.bx 28 (zt 0)), za 2 (.const (.pointer none))])
  (.seq (.run [zr 3 (.bld zst []), zf 4 (.bx 75 (zt 3)), zr 5 (.ldn 2 (zt 1)), zr 6 (.bld [(.pointer none), (.int .i64 0), (.int .i64 0), (.bool false), (.slice none 0 0), .nilIface, (.int .i64 0), (.slice none 0 0)] [(0, 1, (zt 4)), (1, 2, (zt 5)), (3, 1, (.const (.bool true)))]), zf 7 (.bx 34 (zt 6)), za 2 (zt 7)])
  .ret))
noncomputable def ce10 : List (Nat × List Nat × List Nat) := []
noncomputable def ro10 : List RO := [(.mv (zt 2))]
theorem ok10 : okFn Tryz.prog 10 8 ce10 = some (rc10, ro10) := by kernel_rfl
def rc11_0 : RC := (.seq (.run [zr 12 (.mv (zt 0)), zr 13 (.nck (zt 12)), zr 14 (.fa 0 (zt 13)), zr 15 (.mv (zt 1)), zr 16 (.sla 16384 1 (zt 14) (some (zt 15)) none), zr 17 (.mv (zt 2)), zf 18 (.cpy 1 (zt 16) (zt 17))])
  (.seq (.run [za 6 (.const (.bool true))])
  .ret))
def rc11 : RC := (.seq (.run [za 6 (.const (.bool false))])
  (.seq (.seq (.run [zr 7 (.mv (zt 1)), zr 8 (.mv (zt 2)), zr 9 (.lenl (zt 8)), zc 10 28 [(zt 7), (zt 9)], zr 11 (.not (zt 10))])
  (.cond (zt 11)
  (.seq (.run [za 6 (.const (.bool false))])
  .ret)
  .skip))
  rc11_0))
def ce11 : List (Nat × List Nat × List Nat) := []
def ro11 : List RO := [(.mv (zt 6))]
theorem ok11 : okFn Tryz.prog 11 19 ce11 = some (rc11, ro11) := by kernel_rfl
def rc12_0 : RC := (.seq (.block 1 (.seq (.run [zr 25 (.mv (zt 23)), zr 26 (.ia 1 (zt 21) (zt 23)), zr 27 (.ld (zt 26)), za 6 (zt 25), za 7 (zt 27)])
  (.seq (.seq (.run [zr 28 (.mv (zt 0)), zr 29 (.nck (zt 28)), zr 30 (.fa 5 (zt 29)), zr 31 (.ld (zt 30)), zr 32 (.eq true (.iface []) (zt 31) (.const .nilIface))])
  (.cond (zt 32)
  (.seq (.run [zr 33 (.mv (zt 5)), zr 34 (.mv (zt 0)), zr 35 (.mv (zt 0)), zr 36 (.nck (zt 35)), zr 37 (.fa 5 (zt 36)), zr 38 (.ld (zt 37)), zr 39 (.mv (zt 1)), zr 40 (.mv (zt 6)), zr 41 (.sl 1 (zt 39) (some (zt 40)) none), zr 42 (.nck (zt 38)), zr 43 (.mv (zt 38)), ⟨(some 44), none, (.c (.inv (zt 43) "Put" [(zt 41)])), []⟩, zc 45 29 [(zt 34), (zt 44)], zf 46 (.app 5 1 1 (zt 33) (zt 45)), za 4 (zt 46)])
  .ret)
  .skip))
  (.run [zr 47 (.mv (zt 5)), zr 48 (.mv (zt 0)), zr 49 (.mv (zt 7)), zc 50 30 [(zt 48), (zt 49)], zf 51 (.app 5 1 1 (zt 47) (zt 50)), za 5 (zt 51)]))))
  (.run [zr 52 (.bin .add (zt 23) (zi 1)), zr 23 (.mv (zt 52))]))
def rc12_1 : RC := (.seq (.run [zr 24 (.bin .lss (zt 23) (zt 22))])
  (.seq (.cond (zt 24)
  .skip
  (.exit 0))
  rc12_0))
def rc12_2 : RC := (.seq (.run [zr 53 (.mv (zt 5)), za 4 (zt 53)])
  .ret)
def rc12_3 : RC := (.seq (.run [za 5 (.const (.slice none 0 0))])
  (.seq (.seq (.run [zr 21 (.mv (zt 1)), zr 22 (.lenl (zt 21)), zr 23 (.mv (zi 0))])
  (.block 0 (.loop rc12_1)))
  rc12_2))
def rc12 : RC := (.seq (.run [za 4 (.const (.slice none 0 0))])
  (.seq (.seq (.run [zr 8 (.mv (zt 0)), zr 9 (.nck (zt 8)), zr 10 (.fa 5 (zt 9)), zr 11 (.ld (zt 10)), zr 12 (.eq true (.iface []) (zt 11) (.const .nilIface))])
  (.cond (zt 12)
  (.seq (.run [zr 13 (.mv (zt 0)), zr 14 (.mv (zt 0)), zr 15 (.nck (zt 14)), zr 16 (.fa 5 (zt 15)), zr 17 (.ld (zt 16)), zr 18 (.mv (zt 1)), ⟨(some 19), none, (.c (.inv (zt 17) "Put" [(zt 18)])), []⟩, zc 20 29 [(zt 13), (zt 19)], za 4 (zt 20)])
  .ret)
  .skip))
  rc12_3))
def ce12 : List (Nat × List Nat × List Nat) := [(8, [0, 1, 2, 3, 4, 5, 6, 7, 8, 9, 10, 11, 12, 13, 14], [0, 0, 0, 4, 12, 28, 0, 0, 192, 60, 572, 2044, 4094, 8191, 16383])]
def ro12 : List RO := [(.mv (zt 4))]
theorem ok12 : okFn Tryz.prog 12 54 ce12 = some (rc12, ro12) := by kernel_rfl
def rc13 : RC := (.seq (.run [za 4 (.const (.string ⟨#[]⟩))])
  (.seq (.run [zr 5 (.mv (zt 0)), zc 6 31 [(zt 5), (zi 16)], zr 7 (.bin .add (.const (.string ⟨#[115, 117, 109, 32]⟩)) (zt 6)), zr 8 (.bin .add (zt 7) (.const (.string ⟨#[32]⟩))), zr 9 (.mv (zt 1)), zc 10 31 [(zt 9), (zi 16)], zr 11 (.bin .add (zt 8) (zt 10)), zr 12 (.bin .add (zt 11) (.const (.string ⟨#[13]⟩))), za 4 (zt 12)])
  .ret))
def ce13 : List (Nat × List Nat × List Nat) := []
def ro13 : List RO := [(.mv (zt 4))]
theorem ok13 : okFn Tryz.prog 13 13 ce13 = some (rc13, ro13) := by kernel_rfl
def rc14_0 : RC := (.seq (.run [zr 12 (.mv (zt 0)), zr 13 (.nck (zt 12)), zr 14 (.fa 0 (zt 13)), zr 15 (.mv (zt 1)), zr 16 (.mv (zt 1)), zr 17 (.mv (zt 2)), zr 18 (.bin .add (zt 16) (zt 17)), zr 19 (.sla 16384 1 (zt 14) (some (zt 15)) (some (zt 18))), zf 20 (.app 5 1 1 (.const (.slice none 0 0)) (zt 19)), za 6 (zt 20), za 7 (.const (.bool true))])
  .ret)
def rc14 : RC := (.seq (.run [za 6 (.const (.slice none 0 0)), za 7 (.const (.bool false))])
  (.seq (.seq (.run [zr 8 (.mv (zt 1)), zr 9 (.mv (zt 2)), zc 10 28 [(zt 8), (zt 9)], zr 11 (.not (zt 10))])
  (.cond (zt 11)
  (.seq (.run [za 6 (.const (.slice none 0 0)), za 7 (.const (.bool false))])
  .ret)
  .skip))
  rc14_0))
def ce14 : List (Nat × List Nat × List Nat) := []
def ro14 : List RO := [(.mv (zt 6)), (.mv (zt 7))]
theorem ok14 : okFn Tryz.prog 14 21 ce14 = some (rc14, ro14) := by kernel_rfl
def rc15 : RC := (.seq (.run [za 2 (.const (.slice none 0 0))])
  (.seq (.run [zr 3 (.mv (zt 0)), zr 4 (.nck (zt 3)), zr 5 (.fa 7 (zt 4)), zr 6 (.ld (zt 5)), zf 7 (.app 44 3 24 (.const (.slice none 0 0)) (zt 6)), za 2 (zt 7)])
  .ret))
def ce15 : List (Nat × List Nat × List Nat) := []
def ro15 : List RO := [(.mv (zt 2))]
theorem ok15 : okFn Tryz.prog 15 8 ce15 = some (rc15, ro15) := by kernel_rfl
def rc16 : RC := (.seq (.run [za 2 (.const (.int .u32 0))])
  (.seq (.run [zr 4 (.bld [(.int .u32 0), (.int .u32 0)] []), zf 5 (.bx 81 (zt 4)), za 3 (zt 5)])
  (.seq (.run [zr 6 (.mv (zt 3)), zr 7 (.mv (zt 0)), zc 8 32 [(zt 6), (zt 7)]])
  (.seq (.run [zr 9 (.mv (zt 3)), zc 10 33 [(zt 9)], za 2 (zt 10)])
  .ret))))
def ce16 : List (Nat × List Nat × List Nat) := []
def ro16 : List RO := [(.mv (zt 2))]
theorem ok16 : okFn Tryz.prog 16 11 ce16 = some (rc16, ro16) := by kernel_rfl
def rc17 : RC := (.seq (.run [zf 1 (.bx 44 (zt 0)), za 2 (.const (.string ⟨#[]⟩))])
  (.seq (.run [zr 3 (.fa 0 (zt 1)), zr 4 (.ld (zt 3)), zr 8 (.fa 1 (zt 1)), zr 9 (.ld (zt 8)), zr 13 (.fa 2 (zt 1)), zr 14 (.ld (zt 13)), zr 15 (.cvi .u64 (zt 14)), ⟨(some 5), none, (.c (.fn 31 [(zt 4), (zi 16)])), [(9, none, .ld (zt 8)), (14, none, .ld (zt 13))]⟩, zr 6 (.bin .add (.const (.string ⟨#[115, 117, 109, 32]⟩)) (zt 5)), zr 7 (.bin .add (zt 6) (.const (.string ⟨#[32]⟩))), ⟨(some 10), none, (.c (.fn 31 [(zt 9), (zi 16)])), [(14, none, .ld (zt 13))]⟩, zr 11 (.bin .add (zt 7) (zt 10)), zr 12 (.bin .add (zt 11) (.const (.string ⟨#[32]⟩))), zc 16 34 [(zt 15), (zi 16)], zr 17 (.bin .add (zt 12) (zt 16)), zr 18 (.bin .add (zt 17) (.const (.string ⟨#[13, 10]⟩))), za 2 (zt 18)])
  .ret))
def ce17 : List (Nat × List Nat × List Nat) := [(1, [0, 1, 5, 6, 10, 11, 12, 2, 3, 4, 7, 8, 9, 13, 14, 15, 16], [0, 1, 3, 7, 15, 0, 32, 103, 255, 511, 0, 1024, 3072, 7399, 16383, 32767, 65535])]
def ro17 : List RO := [(.mv (zt 2))]
theorem ok17 : okFn Tryz.prog 17 19 ce17 = some (rc17, ro17) := by kernel_rfl
def rc18 : RC := (.seq (.run [za 4 (.const (.string ⟨#[]⟩))])
  (.seq (.run [zr 6 (.mv (zt 0)), zr 7 (.mn (zt 6) (zi 3)), zr 8 (.mx (zi 0) (zt 7)), zr 13 (.mv (zt 1)), zc 5 35 [], zr 9 (.ia 1 (zt 5) (zt 8)), zr 10 (.ld (zt 9)), zr 11 (.bin .add (.const (.string ⟨#[108, 111, 97, 100, 32]⟩)) (zt 10)), zr 12 (.bin .add (zt 11) (.const (.string ⟨#[32]⟩))), ⟨(some 14), none, (.c (.fn 31 [(zt 13), (zi 16)])), [(10, none, .ld (zt 9))]⟩, zr 15 (.bin .add (zt 12) (zt 14)), zr 16 (.bin .add (zt 15) (.const (.string ⟨#[13]⟩))), za 4 (zt 16)])
  .ret))
def ce18 : List (Nat × List Nat × List Nat) := [(1, [1, 2, 3, 8, 0, 4, 5, 6, 7, 9, 10, 11, 12], [0, 0, 2, 6, 15, 31, 63, 127, 0, 257, 1023, 2047, 4095])]
def ro18 : List RO := [(.mv (zt 4))]
theorem ok18 : okFn Tryz.prog 18 17 ce18 = some (rc18, ro18) := by kernel_rfl
def rc19 : RC := (.seq (.run [za 2 (.const (.bool false))])
  (.seq (.run [zr 3 (.mv (zt 0)), zr 4 (.nck (zt 3)), zr 5 (.fa 5 (zt 4)), zr 6 (.ld (zt 5)), zr 7 (.eq true (.iface []) (zt 6) (.const .nilIface)), za 2 (zt 7)])
  .ret))
def ce19 : List (Nat × List Nat × List Nat) := []
def ro19 : List RO := [(.mv (zt 2))]
theorem ok19 : okFn Tryz.prog 19 8 ce19 = some (rc19, ro19) := by kernel_rfl
def rc20_0 : RC := (.seq (.run [zr 85 (.mv (zt 8)), za 6 (zt 85)])
  .ret)
def rc20_1 : RC := (.seq (.seq (.run [zr 73 (.fa 0 (zt 3)), zr 74 (.ld (zt 73)), zr 75 (.bin .rem (zt 74) (.const (.int .u8 16))), zr 76 (.bin .eql (zt 75) (.const (.int .u8 12)))])
  (.cond (zt 76)
  (.run [zr 77 (.mv (zt 8)), zr 78 (.fa 3 (zt 3)), zr 79 (.ld (zt 78)), zr 80 (.cvi .i64 (zt 79)), zr 81 (.mv (zt 8)), zr 82 (.lenl (zt 81)), zr 83 (.bin .rem (zt 80) (zt 82)), zr 84 (.sl 1 (zt 77) none (some (zt 83))), za 8 (zt 84)])
  .skip))
  rc20_0)
def rc20_2 : RC := (.seq (.run [zr 43 (.mv (zt 7)), zr 44 (.fa 2 (zt 3)), zr 45 (.ld (zt 44)), zr 46 (.fa 1 (zt 3)), zr 47 (.ld (zt 46)), zr 48 (.bin .rem (zt 47) (.const (.int .u8 5))), zr 49 (.bin .eql (zt 48) (.const (.int .u8 4))), zc 50 37 [(zt 45), (zt 49)], zr 51 (.bld [(.int .u8 0), (.slice none 0 0)] [(0, 1, (zt 43)), (1, 1, (zt 50))]), zr 52 (.mv (zt 2)), zc 53 36 [(zt 51), (zt 52)], zr 42 (.mv (zt 53)), zr 54 (.ext 0 (zt 42)), zr 55 (.ext 1 (zt 42)), za 8 (zt 54), za 9 (zt 55)])
  (.seq (.seq (.run [zr 56 (.fa 0 (zt 3)), zr 57 (.ld (zt 56)), zr 58 (.bin .rem (zt 57) (.const (.int .u8 8))), zr 59 (.bin .eql (zt 58) (.const (.int .u8 3)))])
  (.cond (zt 59)
  (.run [zr 60 (.mv (zt 8)), zr 61 (.fa 3 (zt 3)), zr 62 (.ld (zt 61)), zr 63 (.cvi .i64 (zt 62)), zr 64 (.mv (zt 8)), zr 65 (.lenl (zt 64)), zr 66 (.bin .rem (zt 63) (zt 65)), zr 67 (.ia 1 (zt 60) (zt 66)), zr 68 (.ld (zt 67)), zr 69 (.fa 4 (zt 3)), zr 70 (.ld (zt 69)), zr 71 (.bin .xor (zt 68) (zt 70)), zr 72 (.ia 1 (zt 60) (zt 66)), ze (.st 1 (zt 72) (zt 71))])
  .skip))
  rc20_1))
def rc20_3 : RC := (.seq (.seq (.run [zr 36 (.fa 1 (zt 3)), zr 37 (.ld (zt 36)), zr 38 (.bin .eql (zt 37) (.const (.int .u8 250)))])
  (.cond (zt 38)
  (.run [zr 39 (.fa 3 (zt 3)), zr 40 (.ld (zt 39)), zr 41 (.cvi .u8 (zt 40)), za 7 (zt 41)])
  .skip))
  rc20_2)
def rc20_4 : RC := (.seq (.run [zr 29 (.mv (zt 1)), za 7 (zt 29)])
  (.seq (.seq (.run [zr 30 (.fa 1 (zt 3)), zr 31 (.ld (zt 30)), zr 32 (.bin .rem (zt 31) (.const (.int .u8 8))), zr 33 (.bin .eql (zt 32) (.const (.int .u8 7)))])
  (.cond (zt 33)
  (.run [zr 34 (.mv (zt 7)), zr 35 (.bin .sub (zt 34) (.const (.int .u8 1))), za 7 (zt 35)])
  .skip))
  rc20_3))
def rc20 : RC := (.seq (.run [zf 3 (.bx 53 (zt 0)), za 6 (.const (.slice none 0 0))])
  (.seq (.seq (.run [zr 10 (.fa 0 (zt 3)), zr 11 (.ld (zt 10)), zr 12 (.bin .rem (zt 11) (.const (.int .u8 8)))])
  (.block 0 (.seq (.run [zr 14 (.bin .eql (zt 12) (.const (.int .u8 0))), za 13 (zt 14)])
  (.cond (zt 13)
  (.seq (.run [zf 15 (.bsl 5 1 5 [(.int .u8 0), (.int .u8 0), (.int .u8 0), (.int .u8 0), (.int .u8 0)] [(0, 1, (.const (.int .u8 4))), (1, 1, (.const (.int .u8 24))), (2, 1, (.const (.int .u8 6))), (3, 1, (.const (.int .u8 21))), (4, 1, (.const (.int .u8 1)))]), zr 16 (.fa 1 (zt 3)), zr 17 (.ld (zt 16)), zr 18 (.bin .rem (zt 17) (.const (.int .u8 5))), zr 19 (.ia 1 (zt 15) (zt 18)), zr 20 (.ld (zt 19)), zf 21 (.bsl 5 1 1 [(.int .u8 0)] [(0, 1, (zt 20))]), za 6 (zt 21)])
  .ret)
  (.seq (.run [zr 23 (.bin .eql (zt 12) (.const (.int .u8 1))), za 22 (zt 23)])
  (.cond (zt 22)
  (.seq (.run [zf 24 (.bsl 5 1 2 [(.int .u8 0), (.int .u8 0)] [(0, 1, (.const (.int .u8 24))), (1, 1, (.const (.int .u8 24)))]), za 6 (zt 24)])
  .ret)
  (.seq (.run [zr 26 (.bin .eql (zt 12) (.const (.int .u8 2))), za 25 (zt 26)])
  (.cond (zt 25)
  (.seq (.run [zr 27 (.fa 2 (zt 3)), zr 28 (.ld (zt 27)), za 6 (zt 28)])
  .ret)
  .skip))))))))
  rc20_4))
def ce20 : List (Nat × List Nat × List Nat) := [(15, [0, 1, 2, 3, 4, 5, 6, 7, 8, 9, 10, 11, 12, 13], [0, 0, 2, 6, 0, 16, 62, 127, 255, 0, 512, 2047, 4095, 8191])]
def ro20 : List RO := [(.mv (zt 6))]
theorem ok20 : okFn Tryz.prog 20 86 ce20 = some (rc20, ro20) := by kernel_rfl
def rc21_0 : RC := (.seq (.run [zr 9 (.mv (zt 0)), zr 10 (.bin .quo (zt 9) (zi 16)), zc 11 21 [(zt 10)], zr 12 (.mv (zt 0)), zr 13 (.bin .rem (zt 12) (zi 16)), zc 14 21 [(zt 13)], zr 15 (.bin .add (zt 11) (zt 14)), za 2 (zt 15)])
  .ret)
def rc21 : RC := (.seq (.run [za 2 (.const (.string ⟨#[]⟩))])
  (.seq (.seq (.run [zr 3 (.mv (zt 0)), zr 4 (.bin .lss (zt 3) (zi 16))])
  (.cond (zt 4)
  (.seq (.run [zr 5 (.mv (zt 0)), zr 6 (.mv (zt 0)), zr 7 (.bin .add (zt 6) (zi 1)), zr 8 (.sls (.const (.string ⟨#[48, 49, 50, 51, 52, 53, 54, 55, 56, 57, 97, 98, 99, 100, 101, 102]⟩)) (some (zt 5)) (some (zt 7))), za 2 (zt 8)])
  .ret)
  .skip))
  rc21_0))
def ce21 : List (Nat × List Nat × List Nat) := []
def ro21 : List RO := [(.mv (zt 2))]
theorem ok21 : okFn Tryz.prog 21 16 ce21 = some (rc21, ro21) := by kernel_rfl
def rc22_0 : RC := (.seq (.run [zr 8 (.mv (zt 0)), zr 9 (.mv (zt 0)), zr 10 (.nck (zt 9)), zr 11 (.fa 5 (zt 10)), zr 12 (.ld (zt 11)), ⟨(some 13), none, (.c (.inv (zt 12) "Tick" [])), []⟩, zc 14 29 [(zt 8), (zt 13)], za 2 (zt 14)])
  .ret)
def rc22 : RC := (.seq (.run [za 2 (.const (.slice none 0 0))])
  (.seq (.seq (.run [zr 3 (.mv (zt 0)), zr 4 (.nck (zt 3)), zr 5 (.fa 5 (zt 4)), zr 6 (.ld (zt 5)), zr 7 (.eq false (.iface []) (zt 6) (.const .nilIface))])
  (.cond (zt 7)
  (.seq (.run [za 2 (.const (.slice none 0 0))])
  .ret)
  .skip))
  rc22_0))
def ce22 : List (Nat × List Nat × List Nat) := []
def ro22 : List RO := [(.mv (zt 2))]
theorem ok22 : okFn Tryz.prog 22 15 ce22 = some (rc22, ro22) := by kernel_rfl
def rc23_0 : RC := (.seq (.run [zr 45 (.fa 5 (zt 2)), zr 46 (.ldn 5 (zt 45)), zr 47 (.mv (zt 1)), zr 48 (.fa 1 (zt 2)), zr 49 (.ld (zt 48)), zr 50 (.bin .rem (zt 49) (.const (.int .u8 4))), zr 51 (.bin .gtr (zt 50) (.const (.int .u8 0))), zc 52 20 [(zt 46), (zt 47), (zt 51)], za 4 (zt 52)])
  .ret)
def rc23 : RC := (.seq (.run [zf 2 (.bx 64 (zt 0)), za 4 (.const (.slice none 0 0))])
  (.seq (.seq (.run [zr 5 (.fa 0 (zt 2)), zr 6 (.ld (zt 5)), zr 7 (.bin .rem (zt 6) (.const (.int .u8 8)))])
  (.block 0 (.seq (.run [zr 9 (.bin .eql (zt 7) (.const (.int .u8 0))), za 8 (zt 9)])
  (.cond (zt 8)
  (.seq (.run [zr 10 (.fa 1 (zt 2)), zr 11 (.ld (zt 10)), zr 12 (.bin .rem (zt 11) (.const (.int .u8 4))), zr 13 (.cvi .i64 (zt 12)), zr 14 (.fa 2 (zt 2)), zr 15 (.ld (zt 14)), zr 16 (.cvi .i64 (zt 15)), zr 17 (.bin .rem (zt 16) (zi 17000)), zc 18 18 [(zt 13), (zt 17)], zf 19 (.s2b 5 (zt 18)), za 4 (zt 19)])
  .ret)
  (.seq (.run [zr 21 (.bin .eql (zt 7) (.const (.int .u8 1))), za 20 (zt 21)])
  (.cond (zt 20)
  (.seq (.run [zr 22 (.fa 2 (zt 2)), zr 23 (.ld (zt 22)), zr 24 (.cvi .i64 (zt 23)), zr 25 (.bin .rem (zt 24) (zi 17000)), zr 26 (.fa 3 (zt 2)), zr 27 (.ld (zt 26)), zr 28 (.cvi .i64 (zt 27)), zr 29 (.bin .rem (zt 28) (zi 300)), zc 30 13 [(zt 25), (zt 29)], zf 31 (.s2b 5 (zt 30)), za 4 (zt 31)])
  .ret)
  (.seq (.run [zr 33 (.bin .eql (zt 7) (.const (.int .u8 2))), za 32 (zt 33)])
  (.cond (zt 32)
  (.seq (.run [zr 34 (.fa 4 (zt 2)), zr 35 (.ld (zt 34)), za 4 (zt 35)])
  .ret)
  (.seq (.run [zr 37 (.bin .eql (zt 7) (.const (.int .u8 3))), za 36 (zt 37)])
  (.cond (zt 36)
  (.seq (.run [zf 38 (.bsl 9 1 6 [(.string ⟨#[]⟩), (.string ⟨#[]⟩), (.string ⟨#[]⟩), (.string ⟨#[]⟩), (.string ⟨#[]⟩), (.string ⟨#[]⟩)] [(0, 1, (.const (.string ⟨#[13]⟩))), (1, 1, (.const (.string ⟨#[108, 111, 97, 100, 32, 120, 32, 49, 13]⟩))), (2, 1, (.const (.string ⟨#[115, 117, 109, 32, 49, 13]⟩))), (3, 1, (.const (.string ⟨#[108, 111, 97, 100, 32, 99, 114, 99, 32, 48, 49, 13]⟩))), (4, 1, (.const (.string ⟨#[115, 117, 109, 32, 32, 49, 32, 50, 13]⟩))), (5, 1, (.const (.string ⟨#[108, 111, 97, 100, 32, 99, 104, 101, 99, 107, 32, 49, 48, 48, 13]⟩)))]), zr 39 (.fa 1 (zt 2)), zr 40 (.ld (zt 39)), zr 41 (.bin .rem (zt 40) (.const (.int .u8 6))), zr 42 (.ia 1 (zt 38) (zt 41)), zr 43 (.ld (zt 42)), zf 44 (.s2b 5 (zt 43)), za 4 (zt 44)])
  .ret)
  .skip))))))))))
  rc23_0))
def ce23 : List (Nat × List Nat × List Nat) := []
def ro23 : List RO := [(.mv (zt 4))]
theorem ok23 : okFn Tryz.prog 23 53 ce23 = some (rc23, ro23) := by kernel_rfl
noncomputable def rc24 : RC := (.seq (.run [zf 1 (.bx 28 (zt 0)), za 2 (.const (.pointer none))])
  (.seq (.run [zr 3 (.bld zst []), zf 4 (.bx 75 (zt 3)), zr 5 (.ldn 2 (zt 1)), zr 6 (.bld [(.pointer none), (.int .i64 0), (.int .i64 0), (.bool false), (.string ⟨#[]⟩), (.pointer none), (.pointer none), (.int .i64 0), (.slice none 0 0)] [(0, 1, (zt 4)), (1, 2, (zt 5))]), zf 7 (.bx 94 (zt 6)), za 2 (zt 7)])
  .ret))
noncomputable def ce24 : List (Nat × List Nat × List Nat) := []
noncomputable def ro24 : List RO := [(.mv (zt 2))]
theorem ok24 : okFn Tryz.prog 24 8 ce24 = some (rc24, ro24) := by kernel_rfl
def rc25_0 : RC := (.seq (.block 1 (.seq (.run [zr 32 (.mv (zt 30)), za 6 (zt 32)])
  (.seq (.run [zr 33 (.mv (zt 5)), zr 34 (.mv (zt 6)), zr 35 (.ia 3 (zt 33) (zt 34)), zr 36 (.ldn 3 (zt 35)), zr 37 (.mv (zt 0)), zr 38 (.nck (zt 37)), zr 39 (.fa 8 (zt 38)), zr 40 (.ld (zt 39)), zr 41 (.mv (zt 6)), zr 42 (.ia 3 (zt 40) (zt 41)), zr 43 (.ldn 3 (zt 42)), zr 44 (.eq true (.recd [(0, 0, .int), (1, 0, .int), (2, 0, .int)]) (zt 36) (zt 43))])
  (.cond (zt 44)
  (.seq (.run [za 4 (.const (.bool false))])
  .ret)
  .skip))))
  (.run [zr 45 (.bin .add (zt 30) (zi 1)), zr 30 (.mv (zt 45))]))
def rc25_1 : RC := (.seq (.run [zr 31 (.bin .lss (zt 30) (zt 29))])
  (.seq (.cond (zt 31)
  .skip
  (.exit 0))
  rc25_0))
def rc25_2 : RC := (.seq (.run [zr 47 (.mv (zt 1)), zr 48 (.nck (zt 47)), zr 49 (.fa 0 (zt 48)), zr 50 (.ld (zt 49)), zc 51 14 [(zt 50), (zi 0), (zi 16384)], zr 46 (.mv (zt 51)), zr 52 (.ext 0 (zt 46)), zr 53 (.ext 1 (zt 46)), za 7 (zt 52), za 8 (zt 53)])
  (.seq (.run [zr 55 (.mv (zt 0)), zr 56 (.nck (zt 55)), zr 57 (.fa 0 (zt 56)), zr 58 (.ld (zt 57)), zc 59 14 [(zt 58), (zi 0), (zi 16384)], zr 54 (.mv (zt 59)), zr 60 (.ext 0 (zt 54)), zr 61 (.ext 1 (zt 54)), za 9 (zt 60), za 10 (zt 61)])
  (.seq (.run [zr 62 (.mv (zt 8)), zr 63 (.mv (zt 62)), zg 64 63 true (.mv (zt 10)), zr 65 (.pick (zt 63) (zt 64) (.const (.bool false))), zr 66 (.mv (zt 65)), zg 67 66 true (.mv (zt 7)), zg 68 66 true (.b2s (zt 67)), zg 69 66 true (.mv (zt 9)), zg 70 66 true (.b2s (zt 69)), zg 71 66 true (.bin .eql (zt 68) (zt 70)), zr 72 (.pick (zt 66) (zt 71) (.const (.bool false))), za 4 (zt 72)])
  .ret)))
def rc25_3 : RC := (.seq (.seq (.run [zr 28 (.mv (zt 5)), zr 29 (.lenl (zt 28)), zr 30 (.mv (zi 0))])
  (.block 0 (.loop rc25_1)))
  rc25_2)
def rc25 : RC := (.seq (.run [za 4 (.const (.bool false))])
  (.seq (.run [zr 11 (.mv (zt 1)), zc 12 15 [(zt 11)], za 5 (zt 12)])
  (.seq (.seq (.run [zr 13 (.mv (zt 1)), zc 14 19 [(zt 13)], zr 15 (.mv (zt 0)), zc 16 38 [(zt 15)], zr 17 (.eq true .bool (zt 14) (zt 16)), zr 18 (.mv (zt 17)), zg 19 18 false (.mv (zt 5)), zg 20 18 false (.lenl (zt 19)), zg 21 18 false (.mv (zt 0)), zg 22 18 false (.nck (zt 21)), zg 23 18 false (.fa 8 (zt 22)), zg 24 18 false (.ld (zt 23)), zg 25 18 false (.lenl (zt 24)), zg 26 18 false (.bin .neq (zt 20) (zt 25)), zr 27 (.pick (zt 18) (.const (.bool true)) (zt 26))])
  (.cond (zt 27)
  (.seq (.run [za 4 (.const (.bool false))])
  .ret)
  .skip))
  rc25_3)))
def ce25 : List (Nat × List Nat × List Nat) := [(7, [0, 1, 2, 3, 4, 5, 6, 7, 8, 9, 10, 11], [0, 0, 3, 7, 0, 16, 48, 112, 0, 496, 1008, 2047])]
def ro25 : List RO := [(.mv (zt 4))]
theorem ok25 : okFn Tryz.prog 25 73 ce25 = some (rc25, ro25) := by kernel_rfl
def rc26_0 : RC := (.seq (.run [za 2 (.const (.string ⟨#[]⟩))])
  .ret)
def rc26 : RC := (.seq (.run [za 2 (.const (.string ⟨#[]⟩))])
  (.seq (.block 0 (.seq (.run [zr 4 (.mv (zt 0)), zr 5 (.nck (zt 4)), zr 6 (.fa 6 (zt 5)), zr 7 (.ld (zt 6)), zr 8 (.eq true .ptr (zt 7) (.const (.pointer none))), za 3 (zt 8)])
  (.cond (zt 3)
  (.seq (.run [zr 9 (.mv (zt 0)), zr 10 (.mv (zt 0)), zr 11 (.nck (zt 10)), zr 12 (.fa 6 (zt 11)), zr 13 (.ld (zt 12)), zc 14 40 [(zt 13)], zr 15 (.b2s (zt 14)), zc 16 39 [(zt 9), (zt 15)], za 2 (zt 16)])
  .ret)
  (.seq (.run [zr 18 (.mv (zt 0)), zr 19 (.nck (zt 18)), zr 20 (.fa 5 (zt 19)), zr 21 (.ld (zt 20)), zr 22 (.eq true .ptr (zt 21) (.const (.pointer none))), za 17 (zt 22)])
  (.cond (zt 17)
  (.seq (.run [zr 23 (.mv (zt 0)), zr 24 (.mv (zt 0)), zr 25 (.nck (zt 24)), zr 26 (.fa 5 (zt 25)), zr 27 (.ld (zt 26)), zc 28 41 [(zt 27)], zr 29 (.b2s (zt 28)), zc 30 39 [(zt 23), (zt 29)], za 2 (zt 30)])
  .ret)
  .skip)))))
  rc26_0))
def ce26 : List (Nat × List Nat × List Nat) := []
def ro26 : List RO := [(.mv (zt 2))]
theorem ok26 : okFn Tryz.prog 26 31 ce26 = some (rc26, ro26) := by kernel_rfl
def rc27_0 : RC := (.seq (.block 1 (.block 2 (.seq (.run [zr 15 (.mv (zt 0)), zr 16 (.nck (zt 15)), zr 17 (.fa 6 (zt 16)), zr 18 (.ld (zt 17)), zr 19 (.eq true .ptr (zt 18) (.const (.pointer none))), za 14 (zt 19)])
  (.cond (zt 14)
  (.seq (.run [zr 20 (.mv (zt 5)), zr 21 (.mv (zt 0)), zr 22 (.mv (zt 0)), zr 23 (.nck (zt 22)), zr 24 (.fa 6 (zt 23)), zr 25 (.ld (zt 24)), zr 26 (.mv (zt 1)), zr 27 (.mv (zt 6)), zr 28 (.sl 1 (zt 26) (some (zt 27)) none), zc 29 42 [(zt 25), (zt 28)], zr 30 (.b2s (zt 29)), zc 31 39 [(zt 21), (zt 30)], zr 32 (.bin .add (zt 20) (zt 31)), za 4 (zt 32)])
  .ret)
  (.seq (.run [zr 34 (.mv (zt 0)), zr 35 (.nck (zt 34)), zr 36 (.fa 5 (zt 35)), zr 37 (.ld (zt 36)), zr 38 (.eq true .ptr (zt 37) (.const (.pointer none))), za 33 (zt 38)])
  (.cond (zt 33)
  (.seq (.run [zr 39 (.mv (zt 5)), zr 40 (.mv (zt 0)), zr 41 (.mv (zt 0)), zr 42 (.nck (zt 41)), zr 43 (.fa 5 (zt 42)), zr 44 (.ld (zt 43)), zr 45 (.mv (zt 1)), zr 46 (.mv (zt 6)), zr 47 (.sl 1 (zt 45) (some (zt 46)) none), zc 48 43 [(zt 44), (zt 47)], zr 49 (.b2s (zt 48)), zc 50 39 [(zt 40), (zt 49)], zr 51 (.bin .add (zt 39) (zt 50)), za 4 (zt 51)])
  .ret)
  (.seq (.run [zr 53 (.mv (zt 0)), zr 54 (.nck (zt 53)), zr 55 (.fa 3 (zt 54)), zr 56 (.ld (zt 55)), zr 57 (.not (zt 56)), za 52 (zt 57)])
  (.cond (zt 52)
  (.seq (.run [zr 58 (.mv (zt 0)), zr 59 (.nck (zt 58)), zr 60 (.fa 3 (zt 59)), ze (.st 1 (zt 60) (.const (.bool true)))])
  (.run [zr 61 (.mv (zt 5)), zr 62 (.bin .add (zt 61) (.const (.string ⟨#[13, 10, 61, 62, 32]⟩))), za 5 (zt 62)]))
  (.seq (.run [zr 64 (.mv (zt 1)), zr 65 (.mv (zt 6)), zr 66 (.ia 1 (zt 64) (zt 65)), zr 67 (.ld (zt 66)), zr 68 (.bin .eql (zt 67) (.const (.int .u8 13))), za 63 (zt 68)])
  (.cond (zt 63)
  (.seq (.run [zr 69 (.mv (zt 0)), zr 70 (.nck (zt 69)), zr 71 (.fa 4 (zt 70)), zr 72 (.ld (zt 71)), za 7 (zt 72)])
  (.seq (.run [zr 73 (.mv (zt 0)), zr 74 (.nck (zt 73)), zr 75 (.fa 4 (zt 74)), ze (.st 1 (zt 75) (.const (.string ⟨#[]⟩)))])
  (.run [zr 76 (.mv (zt 5)), zr 77 (.mv (zt 0)), zr 78 (.mv (zt 7)), zc 79 44 [(zt 77), (zt 78)], zr 80 (.bin .add (zt 76) (zt 79)), za 5 (zt 80)])))
  (.seq (.run [zr 82 (.mv (zt 0)), zr 83 (.nck (zt 82)), zr 84 (.fa 4 (zt 83)), zr 85 (.ld (zt 84)), zr 86 (.lens (zt 85)), zr 87 (.bin .lss (zt 86) (zi 80)), za 81 (zt 87)])
  (.cond (zt 81)
  (.run [zr 88 (.mv (zt 0)), zr 89 (.mv (zt 0)), zr 90 (.nck (zt 89)), zr 91 (.fa 4 (zt 90)), zr 92 (.ld (zt 91)), zr 93 (.mv (zt 1)), zr 94 (.mv (zt 6)), zr 95 (.mv (zt 6)), zr 96 (.bin .add (zt 95) (zi 1)), zr 97 (.sl 1 (zt 93) (some (zt 94)) (some (zt 96))), zr 98 (.b2s (zt 97)), zr 99 (.bin .add (zt 92) (zt 98)), zr 100 (.nck (zt 88)), zr 101 (.fa 4 (zt 100)), ze (.st 1 (zt 101) (zt 99))])
  .skip))))))))))))
  (.run [zr 12 (.mv (zt 6)), zr 13 (.bin .add (zt 12) (zi 1)), za 6 (zt 13)]))
def rc27_1 : RC := (.seq (.seq (.run [zr 8 (.mv (zt 6)), zr 9 (.mv (zt 1)), zr 10 (.lenl (zt 9)), zr 11 (.bin .lss (zt 8) (zt 10))])
  (.cond (zt 11)
  .skip
  (.exit 0)))
  rc27_0)
def rc27_2 : RC := (.seq (.run [zr 102 (.mv (zt 5)), za 4 (zt 102)])
  .ret)
def rc27 : RC := (.seq (.run [za 4 (.const (.string ⟨#[]⟩))])
  (.seq (.run [za 5 (.const (.string ⟨#[]⟩))])
  (.seq (.seq (.run [za 6 (zi 0)])
  (.block 0 (.loop rc27_1)))
  rc27_2)))
def ce27 : List (Nat × List Nat × List Nat) := [(6, [0, 1, 2, 3, 4, 5, 6, 7, 8, 9, 10, 11, 12, 13], [0, 0, 0, 4, 12, 28, 0, 0, 192, 508, 1020, 2046, 4095, 8191]), (8, [0, 1, 2, 3, 4, 5, 6, 7, 8, 9, 10, 11, 12, 13], [0, 0, 0, 4, 12, 28, 0, 0, 192, 508, 1020, 2046, 4095, 8191]), (17, [0, 1, 2, 3, 4, 5, 6, 7, 8, 9, 10, 11, 12, 13, 14], [0, 0, 2, 6, 14, 0, 0, 0, 128, 480, 992, 2046, 4095, 8191, 16383])]
def ro27 : List RO := [(.mv (zt 4))]
theorem ok27 : okFn Tryz.prog 27 103 ce27 = some (rc27, ro27) := by kernel_rfl
def rc28 : RC := (.seq (.run [za 4 (.const (.bool false))])
  (.seq (.run [zr 5 (.mv (zt 0)), zr 6 (.bin .geq (zt 5) (zi 0)), zr 7 (.mv (zt 6)), zg 8 7 true (.mv (zt 1)), zg 9 7 true (.bin .geq (zt 8) (zi 0)), zr 10 (.pick (zt 7) (zt 9) (.const (.bool false))), zr 11 (.mv (zt 10)), zg 12 11 true (.mv (zt 0)), zg 13 11 true (.bin .leq (zt 12) (zi 16384)), zr 14 (.pick (zt 11) (zt 13) (.const (.bool false))), zr 15 (.mv (zt 14)), zg 16 15 true (.mv (zt 1)), zg 17 15 true (.mv (zt 0)), zg 18 15 true (.bin .sub (zi 16384) (zt 17)), zg 19 15 true (.bin .leq (zt 16) (zt 18)), zr 20 (.pick (zt 15) (zt 19) (.const (.bool false))), za 4 (zt 20)])
  .ret))
def ce28 : List (Nat × List Nat × List Nat) := []
def ro28 : List RO := [(.mv (zt 4))]
theorem ok28 : okFn Tryz.prog 28 21 ce28 = some (rc28, ro28) := by kernel_rfl
def rc29_0 : RC := (.seq (.run [zr 38 (.mv (zt 0)), zr 39 (.nck (zt 38)), zr 40 (.fa 5 (zt 39)), ze (.st 1 (zt 40) (.const .nilIface))])
  (.seq (.run [zr 41 (.mv (zt 1)), zr 42 (.mv (zt 7)), zr 43 (.bin .add (zt 42) (.const (.string ⟨#[61, 62, 32]⟩))), zf 44 (.app 5 1 1 (zt 41) (zt 43)), za 4 (zt 44)])
  .ret))
def rc29_1 : RC := (.seq (.run [za 7 (.const (.string ⟨#[13, 10]⟩))])
  (.seq (.seq (.run [zr 19 (.mv (zt 6)), zr 20 (.eq true (.iface []) (zt 19) (.const .nilIface)), zr 21 (.mv (zt 20)), zg 22 21 false (.mv (zt 0)), zg 23 21 false (.nck (zt 22)), zg 24 21 false (.fa 0 (zt 23)), zg 25 21 false (.ld (zt 24)), zg 26 21 false (.mv (zt 0)), zg 27 21 false (.nck (zt 26)), zg 28 21 false (.fa 6 (zt 27)), zg 29 21 false (.ld (zt 28)), zg 30 21 false (.mv (zt 0)), zg 31 21 false (.nck (zt 30)), zg 32 21 false (.fa 5 (zt 31)), zg 33 21 false (.ld (zt 32)), ⟨(some 34), (some (21, false)), (.c (.inv (zt 33) "Data" [])), [(25, (some (21, false)), .ld (zt 24)), (29, (some (21, false)), .ld (zt 28))]⟩, ⟨(some 35), (some (21, false)), (.c (.fn 11 [(zt 25), (zt 29), (zt 34)])), []⟩, zg 36 21 false (.not (zt 35)), zr 37 (.pick (zt 21) (.const (.bool true)) (zt 36))])
  (.cond (zt 37)
  (.run [za 7 (.const (.string ⟨#[33, 13, 10]⟩))])
  .skip))
  rc29_0))
def rc29 : RC := (.seq (.run [za 4 (.const (.slice none 0 0))])
  (.seq (.run [zr 9 (.mv (zt 0)), zr 10 (.nck (zt 9)), zr 11 (.fa 5 (zt 10)), zr 12 (.ld (zt 11)), ⟨(some 13), none, (.c (.inv (zt 12) "Done" [])), []⟩, zr 8 (.mv (zt 13)), zr 14 (.ext 0 (zt 8)), zr 15 (.ext 1 (zt 8)), za 5 (zt 14), za 6 (zt 15)])
  (.seq (.seq (.run [zr 16 (.mv (zt 5)), zr 17 (.not (zt 16))])
  (.cond (zt 17)
  (.seq (.run [zr 18 (.mv (zt 1)), za 4 (zt 18)])
  .ret)
  .skip))
  rc29_1)))
def ce29 : List (Nat × List Nat × List Nat) := [(5, [0, 1, 2, 3, 4, 5, 6, 7, 8, 9, 10, 11, 12, 13, 14, 15, 16, 17, 18], [0, 1, 3, 7, 15, 31, 63, 7, 135, 391, 903, 7, 2055, 6151, 14343, 30727, 65535, 131071, 262143])]
def ro29 : List RO := [(.mv (zt 4))]
theorem ok29 : okFn Tryz.prog 29 45 ce29 = some (rc29, ro29) := by kernel_rfl
def rc30_0 : RC := (.seq (.run [za 4 (.const (.slice none 0 0))])
  .ret)
def rc30_1 : RC := (.seq (.seq (.run [zr 29 (.mv (zt 0)), zr 30 (.nck (zt 29)), zr 31 (.fa 4 (zt 30)), zr 32 (.ld (zt 31)), zr 33 (.lenl (zt 32)), zr 34 (.bin .lss (zt 33) (zi 80))])
  (.cond (zt 34)
  (.run [zr 35 (.mv (zt 0)), zr 36 (.mv (zt 0)), zr 37 (.nck (zt 36)), zr 38 (.fa 4 (zt 37)), zr 39 (.ld (zt 38)), zr 40 (.mv (zt 1)), zf 41 (.bsl 5 1 1 [(.int .u8 0)] [(0, 1, (zt 40))]), zf 42 (.app 5 1 1 (zt 39) (zt 41)), zr 43 (.nck (zt 35)), zr 44 (.fa 4 (zt 43)), ze (.st 1 (zt 44) (zt 42))])
  .skip))
  rc30_0)
def rc30_2 : RC := (.seq (.seq (.run [zr 15 (.mv (zt 1)), zr 16 (.bin .eql (zt 15) (.const (.int .u8 13)))])
  (.cond (zt 16)
  (.seq (.run [zr 17 (.mv (zt 0)), zr 18 (.nck (zt 17)), zr 19 (.fa 4 (zt 18)), zr 20 (.ld (zt 19)), zr 21 (.b2s (zt 20)), za 5 (zt 21)])
  (.seq (.run [zr 22 (.mv (zt 0)), zr 23 (.nck (zt 22)), zr 24 (.fa 4 (zt 23)), ze (.st 1 (zt 24) (.const (.slice none 0 0)))])
  (.seq (.run [zr 25 (.mv (zt 0)), zr 26 (.mv (zt 5)), zc 27 45 [(zt 25), (zt 26)], zf 28 (.s2b 5 (zt 27)), za 4 (zt 28)])
  .ret)))
  .skip))
  rc30_1)
def rc30 : RC := (.seq (.run [za 4 (.const (.slice none 0 0))])
  (.seq (.seq (.run [zr 6 (.mv (zt 0)), zr 7 (.nck (zt 6)), zr 8 (.fa 3 (zt 7)), zr 9 (.ld (zt 8))])
  (.cond (zt 9)
  (.seq (.run [zr 10 (.mv (zt 0)), zr 11 (.nck (zt 10)), zr 12 (.fa 3 (zt 11)), ze (.st 1 (zt 12) (.const (.bool false)))])
  (.seq (.run [zf 13 (.bsl 5 1 5 [(.int .u8 0), (.int .u8 0), (.int .u8 0), (.int .u8 0), (.int .u8 0)] [(0, 1, (.const (.int .u8 13))), (1, 1, (.const (.int .u8 10))), (2, 1, (.const (.int .u8 61))), (3, 1, (.const (.int .u8 62))), (4, 1, (.const (.int .u8 32)))]), zf 14 (.cvm 5 (zt 13)), za 4 (zt 14)])
  .ret))
  .skip))
  rc30_2))
def ce30 : List (Nat × List Nat × List Nat) := []
def ro30 : List RO := [(.mv (zt 4))]
theorem ok30 : okFn Tryz.prog 30 45 ce30 = some (rc30, ro30) := by kernel_rfl
def rc31 : RC := (.seq (.run [za 4 (.const (.string ⟨#[]⟩))])
  (.seq (.run [zr 5 (.mv (zt 0)), zr 6 (.mv (zt 1)), zc 7 46 [(zt 5), (zt 6)], za 4 (zt 7)])
  .ret))
def ce31 : List (Nat × List Nat × List Nat) := []
def ro31 : List RO := [(.mv (zt 4))]
theorem ok31 : okFn Tryz.prog 31 8 ce31 = some (rc31, ro31) := by kernel_rfl
def rc32_0 : RC := (.seq (.block 1 (.seq (.run [zr 10 (.ia 1 (zt 6) (zt 8)), zr 11 (.ld (zt 10)), za 5 (zt 11)])
  (.seq (.run [zr 12 (.mv (zt 0)), zr 13 (.mv (zt 0)), zr 14 (.nck (zt 13)), zr 15 (.fa 0 (zt 14)), zr 16 (.ld (zt 15)), zr 17 (.mv (zt 5)), zr 18 (.cvi .u32 (zt 17)), zr 19 (.bin .add (zt 16) (zt 18)), zr 20 (.bin .rem (zt 19) (.const (.int .u32 65521))), zr 21 (.nck (zt 12)), zr 22 (.fa 0 (zt 21)), ze (.st 1 (zt 22) (zt 20))])
  (.run [zr 23 (.mv (zt 0)), zr 24 (.mv (zt 0)), zr 25 (.nck (zt 24)), zr 26 (.fa 1 (zt 25)), zr 27 (.ld (zt 26)), zr 28 (.mv (zt 0)), zr 29 (.nck (zt 28)), zr 30 (.fa 0 (zt 29)), zr 31 (.ld (zt 30)), zr 32 (.bin .add (zt 27) (zt 31)), zr 33 (.bin .add (zt 32) (.const (.int .u32 1))), zr 34 (.bin .rem (zt 33) (.const (.int .u32 65521))), zr 35 (.nck (zt 23)), zr 36 (.fa 1 (zt 35)), ze (.st 1 (zt 36) (zt 34))]))))
  (.run [zr 37 (.bin .add (zt 8) (zi 1)), zr 8 (.mv (zt 37))]))
def rc32_1 : RC := (.seq (.run [zr 9 (.bin .lss (zt 8) (zt 7))])
  (.seq (.cond (zt 9)
  .skip
  (.exit 0))
  rc32_0))
def rc32 : RC := (.seq (.run [zr 6 (.mv (zt 1)), zr 7 (.lenl (zt 6)), zr 8 (.mv (zi 0))])
  (.block 0 (.loop rc32_1)))
def ce32 : List (Nat × List Nat × List Nat) := [(4, [0, 1, 2, 3, 4, 5, 6, 7, 8, 9, 10, 11, 12, 13, 14], [0, 0, 2, 6, 14, 0, 32, 96, 224, 510, 1022, 2046, 4095, 8191, 16383])]
def ro32 : List RO := []
theorem ok32 : okFn Tryz.prog 32 38 ce32 = some (rc32, ro32) := by kernel_rfl
def rc33 : RC := (.seq (.run [za 2 (.const (.int .u32 0))])
  (.seq (.run [zr 3 (.mv (zt 0)), zr 4 (.nck (zt 3)), zr 5 (.fa 1 (zt 4)), zr 6 (.ld (zt 5)), zr 7 (.bin .shl (zt 6) (.const (.int .u64 16))), zr 8 (.mv (zt 0)), zr 9 (.nck (zt 8)), zr 10 (.fa 0 (zt 9)), zr 11 (.ld (zt 10)), zr 12 (.bin .or (zt 7) (zt 11)), za 2 (zt 12)])
  .ret))
def ce33 : List (Nat × List Nat × List Nat) := [(1, [0, 1, 2, 3, 4, 5, 6, 7, 8, 9, 10], [0, 1, 3, 7, 15, 0, 32, 96, 224, 511, 1023])]
def ro33 : List RO := [(.mv (zt 2))]
theorem ok33 : okFn Tryz.prog 33 13 ce33 = some (rc33, ro33) := by kernel_rfl
def rc34 : RC := (.seq (.run [za 4 (.const (.string ⟨#[]⟩))])
  (.seq (.run [zr 5 (.mv (zt 0)), zr 6 (.mv (zt 1)), zc 7 47 [(zt 5), (zt 6)], za 4 (zt 7)])
  .ret))
def ce34 : List (Nat × List Nat × List Nat) := []
def ro34 : List RO := [(.mv (zt 4))]
theorem ok34 : okFn Tryz.prog 34 8 ce34 = some (rc34, ro34) := by kernel_rfl
def rc35 : RC := (.seq (.run [za 0 (.const (.slice none 0 0))])
  (.seq (.run [zf 1 (.bsl 9 1 4 [(.string ⟨#[]⟩), (.string ⟨#[]⟩), (.string ⟨#[]⟩), (.string ⟨#[]⟩)] [(0, 1, (.const (.string ⟨#[99, 104, 101, 99, 107]⟩))), (1, 1, (.const (.string ⟨#[99, 114, 99]⟩))), (2, 1, (.const (.string ⟨#[108, 97, 114, 103, 101]⟩))), (3, 1, (.const (.string ⟨#[98, 97, 116, 99, 104]⟩)))]), za 0 (zt 1)])
  .ret))
def ce35 : List (Nat × List Nat × List Nat) := []
def ro35 : List RO := [(.mv (zt 0))]
theorem ok35 : okFn Tryz.prog 35 2 ce35 = some (rc35, ro35) := by kernel_rfl
def rc36_0 : RC := (.seq (.run [zr 15 (.mv (zt 6)), zr 16 (.fa 0 (zt 2)), zr 17 (.ld (zt 16)), zr 18 (.fa 0 (zt 2)), zr 19 (.ld (zt 18)), zr 20 (.com (zt 19)), zf 21 (.bsl 5 1 3 [(.int .u8 0), (.int .u8 0), (.int .u8 0)] [(0, 1, (zt 15)), (1, 1, (zt 17)), (2, 1, (zt 20))]), zr 22 (.fa 1 (zt 2)), zr 23 (.ld (zt 22)), zf 24 (.app 5 1 1 (zt 21) (zt 23)), za 7 (zt 24)])
  (.seq (.run [zr 25 (.mv (zt 7)), zr 26 (.fa 1 (zt 2)), zr 27 (.ld (zt 26)), zr 28 (.mv (zt 1)), zc 29 48 [(zt 27), (zt 28)], zf 30 (.app 5 1 1 (zt 25) (zt 29)), za 4 (zt 30), za 5 (.const (.bool true))])
  .ret))
def rc36 : RC := (.seq (.run [zf 2 (.bx 90 (zt 0)), za 4 (.const (.slice none 0 0)), za 5 (.const (.bool false))])
  (.seq (.run [za 6 (.const (.int .u8 1))])
  (.seq (.seq (.run [zr 8 (.fa 1 (zt 2)), zr 9 (.ld (zt 8)), zr 10 (.lenl (zt 9))])
  (.block 0 (.seq (.run [zr 12 (.bin .eql (zt 10) (zi 128)), za 11 (zt 12)])
  (.cond (zt 11)
  .skip
  (.seq (.run [zr 14 (.bin .eql (zt 10) (zi 1024)), za 13 (zt 14)])
  (.cond (zt 13)
  (.run [za 6 (.const (.int .u8 2))])
  (.seq (.run [za 4 (.const (.slice none 0 0)), za 5 (.const (.bool false))])
  .ret)))))))
  rc36_0)))
def ce36 : List (Nat × List Nat × List Nat) := []
def ro36 : List RO := [(.mv (zt 4)), (.mv (zt 5))]
theorem ok36 : okFn Tryz.prog 36 31 ce36 = some (rc36, ro36) := by kernel_rfl
def rc37_0 : RC := (.seq (.block 1 (.seq (.run [zr 15 (.mv (zt 13)), za 7 (zt 15)])
  (.seq (.run [zr 16 (.mv (zt 0)), zr 17 (.lenl (zt 16)), zr 18 (.bin .gtr (zt 17) (zi 0))])
  (.cond (zt 18)
  (.run [zr 19 (.mv (zt 6)), zr 20 (.mv (zt 7)), zr 21 (.mv (zt 0)), zr 22 (.mv (zt 7)), zr 23 (.mv (zt 0)), zr 24 (.lenl (zt 23)), zr 25 (.bin .rem (zt 22) (zt 24)), zr 26 (.ia 1 (zt 21) (zt 25)), zr 27 (.ld (zt 26)), zr 28 (.mv (zt 7)), zr 29 (.mv (zt 0)), zr 30 (.lenl (zt 29)), zr 31 (.bin .quo (zt 28) (zt 30)), zr 32 (.cvi .u8 (zt 31)), zr 33 (.bin .add (zt 27) (zt 32)), zr 34 (.ia 1 (zt 19) (zt 20)), ze (.st 1 (zt 34) (zt 33))])
  .skip))))
  (.run [zr 35 (.bin .add (zt 13) (zi 1)), zr 13 (.mv (zt 35))]))
def rc37_1 : RC := (.seq (.run [zr 14 (.bin .lss (zt 13) (zt 12))])
  (.seq (.cond (zt 14)
  .skip
  (.exit 0))
  rc37_0))
def rc37_2 : RC := (.seq (.run [zr 36 (.mv (zt 6)), za 4 (zt 36)])
  .ret)
def rc37_3 : RC := (.seq (.run [zr 9 (.mv (zt 5)), zf 10 (.mks 5 1 (.int .u8 0) (zt 9) (zt 9)), za 6 (zt 10)])
  (.seq (.seq (.run [zr 11 (.mv (zt 6)), zr 12 (.lenl (zt 11)), zr 13 (.mv (zi 0))])
  (.block 0 (.loop rc37_1)))
  rc37_2))
def rc37 : RC := (.seq (.run [za 4 (.const (.slice none 0 0))])
  (.seq (.run [za 5 (zi 128)])
  (.seq (.seq (.run [zr 8 (.mv (zt 1))])
  (.cond (zt 8)
  (.run [za 5 (zi 1024)])
  .skip))
  rc37_3)))
def ce37 : List (Nat × List Nat × List Nat) := [(9, [0, 1, 2, 3, 4, 5, 6, 7, 8, 9, 10, 11, 12, 13, 14, 15, 16], [0, 0, 0, 0, 0, 16, 56, 124, 252, 0, 0, 1024, 3584, 7680, 16380, 32767, 65535])]
def ro37 : List RO := [(.mv (zt 4))]
theorem ok37 : okFn Tryz.prog 37 37 ce37 = some (rc37, ro37) := by kernel_rfl
def rc38 : RC := (.seq (.run [za 2 (.const (.bool false))])
  (.seq (.run [zr 3 (.mv (zt 0)), zr 4 (.nck (zt 3)), zr 5 (.fa 5 (zt 4)), zr 6 (.ld (zt 5)), zr 7 (.eq true .ptr (zt 6) (.const (.pointer none))), zr 8 (.mv (zt 7)), zg 9 8 false (.mv (zt 0)), zg 10 8 false (.nck (zt 9)), zg 11 8 false (.fa 6 (zt 10)), zg 12 8 false (.ld (zt 11)), zg 13 8 false (.eq true .ptr (zt 12) (.const (.pointer none))), zr 14 (.pick (zt 8) (.const (.bool true)) (zt 13)), za 2 (zt 14)])
  .ret))
def ce38 : List (Nat × List Nat × List Nat) := []
def ro38 : List RO := [(.mv (zt 2))]
theorem ok38 : okFn Tryz.prog 38 15 ce38 = some (rc38, ro38) := by kernel_rfl
def rc39_0 : RC := (.seq (.run [zr 64 (.mv (zt 1)), zr 65 (.bin .add (zt 64) (.const (.string ⟨#[33, 13, 10, 61, 62, 32]⟩))), za 4 (zt 65)])
  .ret)
def rc39_1 : RC := (.seq (.run [zr 42 (.mv (zt 0)), zr 43 (.mv (zt 0)), zr 44 (.nck (zt 42)), zr 45 (.fa 6 (zt 44)), ze (.st 1 (zt 45) (.const (.pointer none))), zr 46 (.nck (zt 43)), zr 47 (.fa 5 (zt 46)), ze (.st 1 (zt 47) (.const (.pointer none)))])
  (.seq (.seq (.run [zr 48 (.mv (zt 7)), zr 49 (.eq false (.iface []) (zt 48) (.const .nilIface)), zr 50 (.mv (zt 49)), zg 51 50 true (.mv (zt 0)), zg 52 50 true (.nck (zt 51)), zg 53 50 true (.fa 0 (zt 52)), zg 54 50 true (.ld (zt 53)), zg 55 50 true (.mv (zt 0)), zg 56 50 true (.nck (zt 55)), zg 57 50 true (.fa 7 (zt 56)), zg 58 50 true (.ld (zt 57)), zg 59 50 true (.mv (zt 5)), ⟨(some 60), (some (50, true)), (.c (.fn 11 [(zt 54), (zt 58), (zt 59)])), []⟩, zr 61 (.pick (zt 50) (zt 60) (.const (.bool false)))])
  (.cond (zt 61)
  (.seq (.run [zr 62 (.mv (zt 1)), zr 63 (.bin .add (zt 62) (.const (.string ⟨#[13, 10, 61, 62, 32]⟩))), za 4 (zt 63)])
  .ret)
  .skip))
  rc39_0))
def rc39_2 : RC := (.seq (.seq (.run [zr 39 (.mv (zt 6)), zr 40 (.not (zt 39))])
  (.cond (zt 40)
  (.seq (.run [zr 41 (.mv (zt 1)), za 4 (zt 41)])
  .ret)
  .skip))
  rc39_1)
def rc39 : RC := (.seq (.run [za 4 (.const (.string ⟨#[]⟩))])
  (.seq (.run [za 5 (.const (.slice none 0 0))])
  (.seq (.run [za 6 (.const (.bool false)), za 7 (.const .nilIface)])
  (.seq (.seq (.run [zr 8 (.mv (zt 0)), zr 9 (.nck (zt 8)), zr 10 (.fa 6 (zt 9)), zr 11 (.ld (zt 10)), zr 12 (.eq true .ptr (zt 11) (.const (.pointer none)))])
  (.cond (zt 12)
  (.seq (.run [zr 14 (.mv (zt 0)), zr 15 (.nck (zt 14)), zr 16 (.fa 6 (zt 15)), zr 17 (.ld (zt 16)), zc 18 49 [(zt 17)], zr 13 (.mv (zt 18)), zr 19 (.ext 0 (zt 13)), zr 20 (.ext 1 (zt 13)), za 6 (zt 19), za 7 (zt 20)])
  (.run [zr 21 (.mv (zt 0)), zr 22 (.nck (zt 21)), zr 23 (.fa 6 (zt 22)), zr 24 (.ld (zt 23)), zc 25 50 [(zt 24)], za 5 (zt 25)]))
  (.seq (.run [zr 27 (.mv (zt 0)), zr 28 (.nck (zt 27)), zr 29 (.fa 5 (zt 28)), zr 30 (.ld (zt 29)), zc 31 51 [(zt 30)], zr 26 (.mv (zt 31)), zr 32 (.ext 0 (zt 26)), zr 33 (.ext 1 (zt 26)), za 6 (zt 32), za 7 (zt 33)])
  (.run [zr 34 (.mv (zt 0)), zr 35 (.nck (zt 34)), zr 36 (.fa 5 (zt 35)), zr 37 (.ld (zt 36)), zc 38 52 [(zt 37)], za 5 (zt 38)]))))
  rc39_2))))
def ce39 : List (Nat × List Nat × List Nat) := [(11, [0, 1, 2, 3, 4, 5, 6, 7, 8, 9, 10, 11, 12, 13], [0, 1, 3, 7, 15, 31, 63, 7, 135, 391, 903, 7, 4095, 8191])]
def ro39 : List RO := [(.mv (zt 4))]
theorem ok39 : okFn Tryz.prog 39 66 ce39 = some (rc39, ro39) := by kernel_rfl
def rc40_0 : RC := (.seq (.run [zr 7 (.mv (zt 0)), zr 8 (.mv (zt 0)), zr 9 (.nck (zt 8)), zr 10 (.fa 2 (zt 9)), zr 11 (.ld (zt 10)), zc 12 41 [(zt 11)], zc 13 53 [(zt 7), (zt 12)], za 2 (zt 13)])
  .ret)
def rc40 : RC := (.seq (.run [za 2 (.const (.slice none 0 0))])
  (.seq (.seq (.run [zr 3 (.mv (zt 0)), zr 4 (.nck (zt 3)), zr 5 (.fa 9 (zt 4)), zr 6 (.ld (zt 5))])
  (.cond (zt 6)
  (.seq (.run [za 2 (.const (.slice none 0 0))])
  .ret)
  .skip))
  rc40_0))
def ce40 : List (Nat × List Nat × List Nat) := []
def ro40 : List RO := [(.mv (zt 2))]
theorem ok40 : okFn Tryz.prog 40 14 ce40 = some (rc40, ro40) := by kernel_rfl
def rc41_0 : RC := (.seq (.run [zr 57 (.mv (zt 0)), zc 58 55 [(zt 57)], zf 59 (.bsl 5 1 1 [(.int .u8 0)] [(0, 1, (zt 58))]), za 2 (zt 59)])
  .ret)
def rc41_1 : RC := (.seq (.seq (.run [zr 45 (.mv (zt 0)), zr 46 (.nck (zt 45)), zr 47 (.fa 5 (zt 46)), zr 48 (.ld (zt 47)), zr 49 (.not (zt 48))])
  (.cond (zt 49)
  (.run [zr 50 (.mv (zt 0)), zr 51 (.nck (zt 50)), zr 52 (.fa 2 (zt 51)), zr 53 (.ld (zt 52)), zr 54 (.bin .sub (zt 53) (zi 1)), zr 55 (.nck (zt 50)), zr 56 (.fa 2 (zt 55)), ze (.st 1 (zt 56) (zt 54))])
  .skip))
  rc41_0)
def rc41_2 : RC := (.seq (.run [zr 19 (.mv (zt 0)), zr 20 (.mv (zt 0)), zr 21 (.nck (zt 20)), zr 22 (.fa 1 (zt 21)), zr 23 (.ld (zt 22)), zr 24 (.nck (zt 19)), zr 25 (.fa 3 (zt 24)), ze (.st 1 (zt 25) (zt 23))])
  (.seq (.run [zr 26 (.mv (zt 0)), zr 27 (.nck (zt 26)), zr 28 (.fa 7 (zt 27)), ze (.st 1 (zt 28) (.const (.slice none 0 0)))])
  (.seq (.seq (.run [zr 29 (.mv (zt 0)), zr 30 (.nck (zt 29)), zr 31 (.fa 5 (zt 30)), zr 32 (.ld (zt 31)), zr 33 (.not (zt 32)), zr 34 (.mv (zt 33)), zg 35 34 true (.mv (zt 0)), zg 36 34 true (.nck (zt 35)), zg 37 34 true (.fa 2 (zt 36)), zg 38 34 true (.ld (zt 37)), zg 39 34 true (.bin .eql (zt 38) (zi 0)), zr 40 (.pick (zt 34) (zt 39) (.const (.bool false)))])
  (.cond (zt 40)
  (.seq (.run [zr 41 (.mv (zt 0)), zr 42 (.mki 108 (zi 10)), zf 43 (.bsl 5 1 2 [(.int .u8 0), (.int .u8 0)] [(0, 1, (.const (.int .u8 24))), (1, 1, (.const (.int .u8 24)))]), zc 44 54 [(zt 41), (zt 42), (zt 43)], za 2 (zt 44)])
  .ret)
  .skip))
  rc41_1)))
def rc41_3 : RC := (.seq (.run [zr 7 (.mv (zt 0)), zr 8 (.nck (zt 7)), zr 9 (.fa 3 (zt 8)), zr 10 (.ld (zt 9)), zr 11 (.bin .sub (zt 10) (zi 1)), zr 12 (.nck (zt 7)), zr 13 (.fa 3 (zt 12)), ze (.st 1 (zt 13) (zt 11))])
  (.seq (.seq (.run [zr 14 (.mv (zt 0)), zr 15 (.nck (zt 14)), zr 16 (.fa 3 (zt 15)), zr 17 (.ld (zt 16)), zr 18 (.bin .gtr (zt 17) (zi 0))])
  (.cond (zt 18)
  (.seq (.run [za 2 (.const (.slice none 0 0))])
  .ret)
  .skip))
  rc41_2))
def rc41 : RC := (.seq (.run [za 2 (.const (.slice none 0 0))])
  (.seq (.seq (.run [zr 3 (.mv (zt 0)), zr 4 (.nck (zt 3)), zr 5 (.fa 11 (zt 4)), zr 6 (.ld (zt 5))])
  (.cond (zt 6)
  (.seq (.run [za 2 (.const (.slice none 0 0))])
  .ret)
  .skip))
  rc41_3))
def ce41 : List (Nat × List Nat × List Nat) := []
def ro41 : List RO := [(.mv (zt 2))]
theorem ok41 : okFn Tryz.prog 41 60 ce41 = some (rc41, ro41) := by kernel_rfl
def rc42_0 : RC := (.seq (.run [zr 9 (.mv (zt 0)), zr 10 (.mv (zt 0)), zr 11 (.nck (zt 10)), zr 12 (.fa 2 (zt 11)), zr 13 (.ld (zt 12)), zr 14 (.mv (zt 1)), zc 15 43 [(zt 13), (zt 14)], zc 16 53 [(zt 9), (zt 15)], za 4 (zt 16)])
  .ret)
def rc42 : RC := (.seq (.run [za 4 (.const (.slice none 0 0))])
  (.seq (.seq (.run [zr 5 (.mv (zt 0)), zr 6 (.nck (zt 5)), zr 7 (.fa 9 (zt 6)), zr 8 (.ld (zt 7))])
  (.cond (zt 8)
  (.seq (.run [za 4 (.const (.slice none 0 0))])
  .ret)
  .skip))
  rc42_0))
def ce42 : List (Nat × List Nat × List Nat) := []
def ro42 : List RO := [(.mv (zt 4))]
theorem ok42 : okFn Tryz.prog 42 17 ce42 = some (rc42, ro42) := by kernel_rfl
def rc43_0 : RC := (.run [zc 94 56 [(zt 89), (zt 93)], zr 85 (.mv (zt 94)), zr 95 (.ext 0 (zt 85)), zr 96 (.ext 1 (zt 85)), ⟨(some 6), none, (.e (.al [(.int .u8 0), (.slice none 0 0)] 90)), [(89, none, .ld (zt 88)), (93, none, .ld (zt 92))]⟩, ze (.st 2 (zt 6) (zt 95)), za 7 (zt 96)])
def rc43_1 : RC := (.run [⟨(some 6), none, (.e (.al [(.int .u8 0), (.slice none 0 0)] 90)), [(89, none, .ld (zt 88)), (93, none, .ld (zt 92))]⟩, zc 94 56 [(zt 89), (zt 93)], zr 85 (.mv (zt 94)), zr 95 (.ext 0 (zt 85)), zr 96 (.ext 1 (zt 85)), ze (.st 2 (zt 6) (zt 95)), za 7 (zt 96)])
def rc43_2 : RC := (.seq (.run [zr 106 (.mv (zt 0)), zr 107 (.nck (zt 106)), zr 108 (.fa 7 (zt 107)), ze (.st 1 (zt 108) (.const (.slice none 0 0)))])
  (.seq (.run [zr 109 (.mv (zt 0)), zr 110 (.ldn 2 (zt 6)), zc 111 57 [(zt 109), (zt 110)], za 4 (zt 111)])
  .ret))
def rc43_3 : RC := (.seq (.seq (.run [zr 97 (.mv (zt 7))])
  (.block 1 (.seq (.run [zr 99 (.bin .eql (zt 97) (zi 0)), za 98 (zt 99)])
  (.cond (zt 98)
  (.seq (.run [za 4 (.const (.slice none 0 0))])
  .ret)
  (.seq (.run [zr 101 (.bin .eql (zt 97) (zi 1)), za 100 (zt 101)])
  (.cond (zt 100)
  (.seq (.run [zr 102 (.mv (zt 0)), zr 103 (.nck (zt 102)), zr 104 (.fa 7 (zt 103)), ze (.st 1 (zt 104) (.const (.slice none 0 0)))])
  (.seq (.run [zf 105 (.bsl 5 1 1 [(.int .u8 0)] [(0, 1, (.const (.int .u8 21)))]), za 4 (zt 105)])
  .ret))
  .skip))))))
  rc43_2)
def rc43_4 : RC := (.seq (.sem (.fork [zr 86 (.mv (zt 0)), zr 87 (.nck (zt 86)), zr 88 (.fa 7 (zt 87)), zr 89 (.ld (zt 88)), zr 90 (.mv (zt 0)), zr 91 (.nck (zt 90)), zr 92 (.fa 0 (zt 91)), zr 93 (.ld (zt 92))]
  rc43_0
  rc43_1))
  rc43_3)
def rc43_5 : RC := (.seq (.run [zr 17 (.mv (zt 0)), zr 18 (.mv (zt 0)), zr 19 (.nck (zt 18)), zr 20 (.fa 1 (zt 19)), zr 21 (.ld (zt 20)), zr 22 (.nck (zt 17)), zr 23 (.fa 3 (zt 22)), ze (.st 1 (zt 23) (zt 21))])
  (.seq (.run [zr 24 (.mv (zt 0)), zr 25 (.mv (zt 0)), zr 26 (.nck (zt 25)), zr 27 (.fa 7 (zt 26)), zr 28 (.ld (zt 27)), zr 29 (.mv (zt 1)), zf 30 (.app 5 1 1 (zt 28) (zt 29)), zr 31 (.nck (zt 24)), zr 32 (.fa 7 (zt 31)), ze (.st 1 (zt 32) (zt 30))])
  (.seq (.seq (.run [zr 33 (.mv (zt 0)), zr 34 (.nck (zt 33)), zr 35 (.fa 7 (zt 34)), zr 36 (.ld (zt 35)), zr 37 (.ia 1 (zt 36) (zi 0)), zr 38 (.ld (zt 37)), za 5 (zt 38)])
  (.block 0 (.seq (.run [zr 40 (.mv (zt 5)), zr 41 (.bin .eql (zt 40) (.const (.int .u8 4))), zr 42 (.mv (zt 41)), zg 43 42 true (.mv (zt 0)), zg 44 42 true (.nck (zt 43)), zg 45 42 true (.fa 6 (zt 44)), zg 46 42 true (.ld (zt 45)), zr 47 (.pick (zt 42) (zt 46) (.const (.bool false))), za 39 (zt 47)])
  (.cond (zt 39)
  (.seq (.run [zr 48 (.mv (zt 0)), zf 49 (.bsl 5 1 1 [(.int .u8 0)] [(0, 1, (.const (.int .u8 6)))]), zc 50 54 [(zt 48), (.const .nilIface), (zt 49)], za 4 (zt 50)])
  .ret)
  (.seq (.run [zr 52 (.mv (zt 5)), zr 53 (.bin .eql (zt 52) (.const (.int .u8 24))), zr 54 (.mv (zt 53)), zg 55 54 true (.mv (zt 0)), zg 56 54 true (.nck (zt 55)), zg 57 54 true (.fa 7 (zt 56)), zg 58 54 true (.ld (zt 57)), zg 59 54 true (.lenl (zt 58)), zg 60 54 true (.bin .gtr (zt 59) (zi 1)), zr 61 (.pick (zt 54) (zt 60) (.const (.bool false))), zr 62 (.mv (zt 61)), zg 63 62 true (.mv (zt 0)), zg 64 62 true (.nck (zt 63)), zg 65 62 true (.fa 7 (zt 64)), zg 66 62 true (.ld (zt 65)), zg 67 62 true (.ia 1 (zt 66) (zi 1)), zg 68 62 true (.ld (zt 67)), zg 69 62 true (.bin .eql (zt 68) (.const (.int .u8 24))), zr 70 (.pick (zt 62) (zt 69) (.const (.bool false))), za 51 (zt 70)])
  (.cond (zt 51)
  (.seq (.run [zr 71 (.mv (zt 0)), zr 72 (.mki 108 (zi 9)), zc 73 54 [(zt 71), (zt 72), (.const (.slice none 0 0))], za 4 (zt 73)])
  .ret)
  (.seq (.run [zr 75 (.mv (zt 5)), zr 76 (.bin .eql (zt 75) (.const (.int .u8 24))), zr 77 (.mv (zt 76)), zg 78 77 true (.mv (zt 0)), zg 79 77 true (.nck (zt 78)), zg 80 77 true (.fa 7 (zt 79)), zg 81 77 true (.ld (zt 80)), zg 82 77 true (.lenl (zt 81)), zg 83 77 true (.bin .eql (zt 82) (zi 1)), zr 84 (.pick (zt 77) (zt 83) (.const (.bool false))), za 74 (zt 84)])
  (.cond (zt 74)
  (.seq (.run [za 4 (.const (.slice none 0 0))])
  .ret)
  .skip))))))))
  rc43_4)))
def rc43 : RC := (.seq (.run [za 4 (.const (.slice none 0 0))])
  (.seq (.seq (.run [zr 8 (.mv (zt 0)), zr 9 (.nck (zt 8)), zr 10 (.fa 11 (zt 9)), zr 11 (.ld (zt 10)), zr 12 (.mv (zt 11)), zg 13 12 false (.mv (zt 1)), zg 14 12 false (.lenl (zt 13)), zg 15 12 false (.bin .eql (zt 14) (zi 0)), zr 16 (.pick (zt 12) (.const (.bool true)) (zt 15))])
  (.cond (zt 16)
  (.seq (.run [za 4 (.const (.slice none 0 0))])
  .ret)
  .skip))
  rc43_5))
def ce43 : List (Nat × List Nat × List Nat) := [(12, [0, 1, 2, 3, 4, 5, 6, 7, 1000, 8, 9, 10, 11, 12, 13, 14, 1001, 12, 8, 9, 10, 11, 13, 14], [0, 1, 3, 7, 0, 16, 48, 112, 255, 511, 1023, 1023, 0, 6143, 16383])]
def ro43 : List RO := [(.mv (zt 4))]
theorem ok43 : okFn Tryz.prog 43 112 ce43 = some (rc43, ro43) := by kernel_rfl
def rc44_0 : RC := (.seq (.run [za 4 (.const (.string ⟨#[]⟩))])
  .ret)
def rc44_1 : RC := (.seq (.block 1 (.seq (.run [zr 38 (.mv (zt 36)), zr 39 (.ia 1 (zt 34) (zt 36)), zr 40 (.ld (zt 39)), za 10 (zt 38), za 11 (zt 40)])
  (.seq (.run [zr 41 (.mv (zt 5)), zr 42 (.ia 1 (zt 41) (zi 0)), zr 43 (.ld (zt 42)), zr 44 (.bin .eql (zt 43) (.const (.string ⟨#[108, 111, 97, 100]⟩))), zr 45 (.mv (zt 44)), zg 46 45 true (.mv (zt 5)), zg 47 45 true (.ia 1 (zt 46) (zi 1)), zg 48 45 true (.ld (zt 47)), zg 49 45 true (.mv (zt 11)), zg 50 45 true (.bin .eql (zt 48) (zt 49)), zr 51 (.pick (zt 45) (zt 50) (.const (.bool false))), zr 52 (.mv (zt 51)), zg 53 52 true (.mv (zt 9)), zr 54 (.pick (zt 52) (zt 53) (.const (.bool false)))])
  (.cond (zt 54)
  (.seq (.run [zr 55 (.mv (zt 0)), zr 56 (.mv (zt 8)), zr 57 (.nck (zt 55)), zr 58 (.fa 7 (zt 57)), ze (.st 1 (zt 58) (zt 56))])
  (.seq (.seq (.run [zr 59 (.mv (zt 10)), zr 60 (.bin .eql (zt 59) (zi 3))])
  (.cond (zt 60)
  (.run [zr 61 (.mv (zt 0)), zr 62 (.mv (zt 0)), zr 63 (.nck (zt 62)), zr 64 (.fa 1 (zt 63)), zr 65 (.ldn 2 (zt 64)), zc 66 60 [(zt 65)], zr 67 (.nck (zt 61)), zr 68 (.fa 6 (zt 67)), ze (.st 1 (zt 68) (zt 66))])
  (.run [zr 69 (.mv (zt 0)), zr 70 (.mv (zt 0)), zr 71 (.nck (zt 70)), zr 72 (.fa 1 (zt 71)), zr 73 (.ldn 2 (zt 72)), zr 74 (.mv (zt 10)), zr 75 (.bin .gtr (zt 74) (zi 0)), zc 76 61 [(zt 73), (.const (.int .u8 1)), (zt 75), (.const (.bool true)), (zi 1)], zr 77 (.nck (zt 69)), zr 78 (.fa 5 (zt 77)), ze (.st 1 (zt 78) (zt 76))])))
  rc44_0))
  .skip))))
  (.run [zr 79 (.bin .add (zt 36) (zi 1)), zr 36 (.mv (zt 79))]))
def rc44_2 : RC := (.seq (.run [zr 37 (.bin .lss (zt 36) (zt 35))])
  (.seq (.cond (zt 37)
  .skip
  (.exit 0))
  rc44_1))
def rc44_3 : RC := (.seq (.run [zr 81 (.mv (zt 0)), zr 82 (.nck (zt 81)), zr 83 (.fa 0 (zt 82)), zr 84 (.ld (zt 83)), zr 85 (.mv (zt 6)), zr 86 (.mv (zt 8)), zc 87 14 [(zt 84), (zt 85), (zt 86)], zr 80 (.mv (zt 87)), zr 88 (.ext 0 (zt 80)), zr 89 (.ext 1 (zt 80)), za 12 (zt 88), za 13 (zt 89)])
  (.seq (.run [zr 90 (.mv (zt 5)), zr 91 (.ia 1 (zt 90) (zi 0)), zr 92 (.ld (zt 91)), zr 93 (.bin .eql (zt 92) (.const (.string ⟨#[115, 117, 109]⟩))), zr 94 (.mv (zt 93)), zg 95 94 true (.mv (zt 7)), zr 96 (.pick (zt 94) (zt 95) (.const (.bool false))), zr 97 (.mv (zt 96)), zg 98 97 true (.mv (zt 9)), zr 99 (.pick (zt 97) (zt 98) (.const (.bool false))), zr 100 (.mv (zt 99)), zg 101 100 true (.mv (zt 13)), zr 102 (.pick (zt 100) (zt 101) (.const (.bool false)))])
  (.cond (zt 102)
  (.seq (.run [zr 103 (.mv (zt 6)), zr 104 (.mv (zt 8)), zr 105 (.mv (zt 12)), zc 106 16 [(zt 105)], zr 107 (.bld [(.int .i64 0), (.int .i64 0), (.int .u32 0)] [(0, 1, (zt 103)), (1, 1, (zt 104)), (2, 1, (zt 106))]), zf 14 (.al [(.int .i64 0), (.int .i64 0), (.int .u32 0)] 44), ze (.st 3 (zt 14) (zt 107))])
  (.seq (.run [zr 108 (.mv (zt 0)), zr 109 (.mv (zt 0)), zr 110 (.nck (zt 109)), zr 111 (.fa 8 (zt 110)), zr 112 (.ld (zt 111)), zr 113 (.ldn 3 (zt 14)), ⟨(some 114), none, (.e (.bsl 44 3 1 [(.int .i64 0), (.int .i64 0), (.int .u32 0)] [(0, 3, (zt 113))])), [(112, none, .ld (zt 111))]⟩, zf 115 (.app 44 3 24 (zt 112) (zt 114)), zr 116 (.nck (zt 108)), zr 117 (.fa 8 (zt 116)), ze (.st 1 (zt 117) (zt 115))])
  (.seq (.run [zr 118 (.mv (zt 6)), zr 122 (.mv (zt 8)), zr 126 (.fa 2 (zt 14)), zr 127 (.ld (zt 126)), zr 128 (.cvi .i64 (zt 127)), ⟨(some 119), none, (.c (.fn 21 [(zt 118)])), [(127, none, .ld (zt 126))]⟩, zr 120 (.bin .add (.const (.string ⟨#[115, 117, 109, 32]⟩)) (zt 119)), zr 121 (.bin .add (zt 120) (.const (.string ⟨#[32]⟩))), ⟨(some 123), none, (.c (.fn 21 [(zt 122)])), [(127, none, .ld (zt 126))]⟩, zr 124 (.bin .add (zt 121) (zt 123)), zr 125 (.bin .add (zt 124) (.const (.string ⟨#[32]⟩))), zc 129 21 [(zt 128)], zr 130 (.bin .add (zt 125) (zt 129)), zr 131 (.bin .add (zt 130) (.const (.string ⟨#[13, 10, 61, 62, 32]⟩))), za 4 (zt 131)])
  .ret)))
  .skip)))
def rc44_4 : RC := (.seq (.run [za 4 (.const (.string ⟨#[63, 13, 10, 61, 62, 32]⟩))])
  .ret)
def rc44_5 : RC := (.seq (.seq (.run [zr 132 (.mv (zt 1)), zr 133 (.bin .eql (zt 132) (.const (.string ⟨#[]⟩)))])
  (.cond (zt 133)
  (.seq (.run [za 4 (.const (.string ⟨#[13, 10, 61, 62, 32]⟩))])
  .ret)
  .skip))
  rc44_4)
def rc44 : RC := (.seq (.run [za 4 (.const (.string ⟨#[]⟩))])
  (.seq (.run [zr 15 (.mv (zt 1)), zc 16 58 [(zt 15)], za 5 (zt 16)])
  (.seq (.seq (.run [zr 17 (.mv (zt 5)), zr 18 (.lenl (zt 17)), zr 19 (.bin .eql (zt 18) (zi 3))])
  (.cond (zt 19)
  (.seq (.run [zr 21 (.mv (zt 5)), zr 22 (.ia 1 (zt 21) (zi 1)), zr 23 (.ld (zt 22)), zc 24 59 [(zt 23)], zr 20 (.mv (zt 24)), zr 25 (.ext 0 (zt 20)), zr 26 (.ext 1 (zt 20)), za 6 (zt 25), za 7 (zt 26)])
  (.seq (.run [zr 28 (.mv (zt 5)), zr 29 (.ia 1 (zt 28) (zi 2)), zr 30 (.ld (zt 29)), zc 31 59 [(zt 30)], zr 27 (.mv (zt 31)), zr 32 (.ext 0 (zt 27)), zr 33 (.ext 1 (zt 27)), za 8 (zt 32), za 9 (zt 33)])
  (.seq (.seq (.run [zc 34 35 [], zr 35 (.lenl (zt 34)), zr 36 (.mv (zi 0))])
  (.block 0 (.loop rc44_2)))
  rc44_3)))
  .skip))
  rc44_5)))
def ce44 : List (Nat × List Nat × List Nat) := [(18, [0, 1, 2, 3, 4, 5, 6, 7, 8, 9, 10], [0, 0, 2, 6, 14, 0, 32, 126, 255, 511, 1023]), (19, [0, 4, 8, 9, 10, 1, 2, 3, 5, 6, 7, 11, 12, 13, 14], [0, 1, 3, 7, 0, 19, 63, 127, 0, 256, 768, 1843, 4095, 8191, 16383])]
def ro44 : List RO := [(.mv (zt 4))]
theorem ok44 : okFn Tryz.prog 44 134 ce44 = some (rc44, ro44) := by kernel_rfl
def rc45_0 : RC := (.seq (.run [za 4 (.const (.string ⟨#[63, 13, 10, 61, 62, 32]⟩))])
  .ret)
def rc45_1 : RC := (.seq (.seq (.run [zr 99 (.mv (zt 1)), zr 100 (.bin .eql (zt 99) (.const (.string ⟨#[]⟩)))])
  (.cond (zt 100)
  (.seq (.run [za 4 (.const (.string ⟨#[13, 10, 61, 62, 32]⟩))])
  .ret)
  .skip))
  rc45_0)
def rc45_2 : RC := (.seq (.seq (.run [zr 42 (.mv (zt 5)), zr 43 (.lenl (zt 42)), zr 44 (.bin .eql (zt 43) (zi 3)), zr 45 (.mv (zt 44)), zg 46 45 true (.mv (zt 5)), zg 47 45 true (.ia 1 (zt 46) (zi 0)), zg 48 45 true (.ld (zt 47)), zg 49 45 true (.bin .eql (zt 48) (.const (.string ⟨#[115, 117, 109]⟩))), zr 50 (.pick (zt 45) (zt 49) (.const (.bool false)))])
  (.cond (zt 50)
  (.seq (.run [zr 52 (.mv (zt 5)), zr 53 (.ia 1 (zt 52) (zi 1)), zr 54 (.ld (zt 53)), zc 55 63 [(zt 54)], zr 51 (.mv (zt 55)), zr 56 (.ext 0 (zt 51)), zr 57 (.ext 1 (zt 51)), za 8 (zt 56), za 9 (zt 57)])
  (.seq (.run [zr 59 (.mv (zt 5)), zr 60 (.ia 1 (zt 59) (zi 2)), zr 61 (.ld (zt 60)), zc 62 63 [(zt 61)], zr 58 (.mv (zt 62)), zr 63 (.ext 0 (zt 58)), zr 64 (.ext 1 (zt 58)), za 10 (zt 63), za 11 (zt 64)])
  (.seq (.run [zr 66 (.mv (zt 0)), zr 67 (.nck (zt 66)), zr 68 (.fa 0 (zt 67)), zr 69 (.ld (zt 68)), zr 70 (.mv (zt 8)), zr 71 (.mv (zt 10)), zc 72 65 [(zt 69), (zt 70), (zt 71)], zr 65 (.mv (zt 72)), zr 73 (.ext 0 (zt 65)), zr 74 (.ext 1 (zt 65)), za 12 (zt 73), za 13 (zt 74)])
  (.seq (.run [zr 75 (.mv (zt 9)), zr 76 (.mv (zt 75)), zg 77 76 true (.mv (zt 11)), zr 78 (.pick (zt 76) (zt 77) (.const (.bool false))), zr 79 (.mv (zt 78)), zg 80 79 true (.mv (zt 13)), zr 81 (.pick (zt 79) (zt 80) (.const (.bool false)))])
  (.cond (zt 81)
  (.seq (.run [zr 82 (.mv (zt 8)), zr 83 (.mv (zt 10)), zr 84 (.mv (zt 12)), zr 85 (.bld [(.int .i64 0), (.int .i64 0), (.int .u32 0)] [(0, 1, (zt 82)), (1, 1, (zt 83)), (2, 1, (zt 84))]), zf 14 (.al [(.int .i64 0), (.int .i64 0), (.int .u32 0)] 44), ze (.st 3 (zt 14) (zt 85))])
  (.seq (.run [zr 86 (.mv (zt 0)), zr 87 (.mv (zt 0)), zr 88 (.nck (zt 87)), zr 89 (.fa 7 (zt 88)), zr 90 (.ld (zt 89)), zr 91 (.ldn 3 (zt 14)), ⟨(some 92), none, (.e (.bsl 44 3 1 [(.int .i64 0), (.int .i64 0), (.int .u32 0)] [(0, 3, (zt 91))])), [(90, none, .ld (zt 89))]⟩, zf 93 (.app 44 3 24 (zt 90) (zt 92)), zr 94 (.nck (zt 86)), zr 95 (.fa 7 (zt 94)), ze (.st 1 (zt 95) (zt 93))])
  (.seq (.run [zr 96 (.ldn 3 (zt 14)), zc 97 17 [(zt 96)], zr 98 (.bin .add (zt 97) (.const (.string ⟨#[61, 62, 32]⟩))), za 4 (zt 98)])
  .ret)))
  .skip)))))
  .skip))
  rc45_1)
def rc45 : RC := (.seq (.run [za 4 (.const (.string ⟨#[]⟩))])
  (.seq (.run [zr 15 (.mv (zt 1)), zc 16 62 [(zt 15), (.const (.string ⟨#[32]⟩))], za 5 (zt 16)])
  (.seq (.seq (.run [zr 17 (.mv (zt 5)), zr 18 (.lenl (zt 17)), zr 19 (.bin .eql (zt 18) (zi 3)), zr 20 (.mv (zt 19)), zg 21 20 true (.mv (zt 5)), zg 22 20 true (.ia 1 (zt 21) (zi 0)), zg 23 20 true (.ld (zt 22)), zg 24 20 true (.bin .eql (zt 23) (.const (.string ⟨#[108, 111, 97, 100]⟩))), zr 25 (.pick (zt 20) (zt 24) (.const (.bool false)))])
  (.cond (zt 25)
  (.seq (.run [zr 27 (.mv (zt 5)), zr 28 (.ia 1 (zt 27) (zi 2)), zr 29 (.ld (zt 28)), zc 30 63 [(zt 29)], zr 26 (.mv (zt 30)), zr 31 (.ext 0 (zt 26)), zr 32 (.ext 1 (zt 26)), za 6 (zt 31), za 7 (zt 32)])
  (.seq (.run [zr 33 (.mv (zt 7)), zr 34 (.mv (zt 33)), zg 35 34 true (.mv (zt 0)), zg 36 34 true (.mv (zt 5)), zg 37 34 true (.ia 1 (zt 36) (zi 1)), zg 38 34 true (.ld (zt 37)), zg 39 34 true (.mv (zt 6)), ⟨(some 40), (some (34, true)), (.c (.fn 64 [(zt 35), (zt 38), (zt 39)])), []⟩, zr 41 (.pick (zt 34) (zt 40) (.const (.bool false)))])
  (.cond (zt 41)
  (.seq (.run [za 4 (.const (.string ⟨#[]⟩))])
  .ret)
  .skip)))
  .skip))
  rc45_2)))
def ce45 : List (Nat × List Nat × List Nat) := [(12, [0, 1, 2, 3, 4, 5, 6, 7, 8, 9, 10], [0, 0, 2, 6, 14, 0, 32, 126, 255, 511, 1023])]
def ro45 : List RO := [(.mv (zt 4))]
theorem ok45 : okFn Tryz.prog 45 101 ce45 = some (rc45, ro45) := by kernel_rfl
def rc46_0 : RC := (.seq (.run [zr 40 (.mv (zt 7)), zr 41 (.bin .add (zi 1) (zt 40)), zr 42 (.sla 24 1 (zt 5) (some (zi 1)) (some (zt 41))), zr 43 (.b2s (zt 42)), za 4 (zt 43)])
  .ret)
def rc46_1 : RC := (.seq (.run [zr 26 (.mv (zt 6)), zc 27 67 [(zt 26)], za 7 (zt 27)])
  (.seq (.run [zr 28 (.mv (zt 7)), zr 29 (.bin .add (zi 1) (zt 28)), zr 30 (.sla 24 1 (zt 5) (some (zi 1)) (some (zt 29))), zr 31 (.mv (zt 6)), zc 32 68 [(zt 30), (zt 31)]])
  (.seq (.seq (.run [zr 33 (.mv (zt 0)), zr 34 (.bin .lss (zt 33) (zi 0))])
  (.cond (zt 34)
  (.seq (.run [zr 35 (.iaa 24 1 (zt 5) (zi 0)), ze (.st 1 (zt 35) (.const (.int .u8 45)))])
  (.seq (.run [zr 36 (.mv (zt 7)), zr 37 (.bin .add (zi 1) (zt 36)), zr 38 (.sla 24 1 (zt 5) none (some (zt 37))), zr 39 (.b2s (zt 38)), za 4 (zt 39)])
  .ret))
  .skip))
  rc46_0)))
def rc46_2 : RC := (.seq (.run [zf 5 (.al [(.int .u8 0), (.int .u8 0), (.int .u8 0), (.int .u8 0), (.int .u8 0), (.int .u8 0), (.int .u8 0), (.int .u8 0), (.int .u8 0), (.int .u8 0), (.int .u8 0), (.int .u8 0), (.int .u8 0), (.int .u8 0), (.int .u8 0), (.int .u8 0), (.int .u8 0), (.int .u8 0), (.int .u8 0), (.int .u8 0), (.int .u8 0), (.int .u8 0), (.int .u8 0), (.int .u8 0)] 123)])
  (.seq (.run [zr 20 (.mv (zt 0)), zr 21 (.cvi .u64 (zt 20)), za 6 (zt 21)])
  (.seq (.seq (.run [zr 22 (.mv (zt 0)), zr 23 (.bin .lss (zt 22) (zi 0))])
  (.cond (zt 23)
  (.run [zr 24 (.mv (zt 6)), zr 25 (.neg (zt 24)), za 6 (zt 25)])
  .skip))
  rc46_1)))
def rc46_3 : RC := (.seq (.run [zr 45 (.mv (zt 0)), zr 46 (.cvi .u64 (zt 45)), zr 47 (.mv (zt 1)), zr 48 (.mv (zt 0)), zr 49 (.bin .lss (zt 48) (zi 0)), zc 50 69 [(.const (.slice none 0 0)), (zt 46), (zt 47), (zt 49), (.const (.bool false))], zr 44 (.mv (zt 50)), zr 51 (.ext 0 (zt 44)), zr 52 (.ext 1 (zt 44)), za 8 (zt 51), za 9 (zt 52)])
  (.seq (.run [zr 53 (.mv (zt 9)), za 4 (zt 53)])
  .ret))
def rc46 : RC := (.seq (.run [za 4 (.const (.string ⟨#[]⟩))])
  (.seq (.seq (.run [zr 10 (.mv (zt 1)), zr 11 (.bin .eql (zt 10) (zi 10))])
  (.cond (zt 11)
  (.seq (.seq (.run [zr 12 (.mv (zt 0)), zr 13 (.bin .leq (zi 0) (zt 12)), zr 14 (.mv (zt 13)), zg 15 14 true (.mv (zt 0)), zg 16 14 true (.bin .lss (zt 15) (zi 100)), zr 17 (.pick (zt 14) (zt 16) (.const (.bool false)))])
  (.cond (zt 17)
  (.seq (.run [zr 18 (.mv (zt 0)), zc 19 66 [(zt 18)], za 4 (zt 19)])
  .ret)
  .skip))
  rc46_2)
  .skip))
  rc46_3))
def ce46 : List (Nat × List Nat × List Nat) := []
def ro46 : List RO := [(.mv (zt 4))]
theorem ok46 : okFn Tryz.prog 46 54 ce46 = some (rc46, ro46) := by kernel_rfl
def rc47_0 : RC := (.seq (.run [zf 5 (.al [(.int .u8 0), (.int .u8 0), (.int .u8 0), (.int .u8 0), (.int .u8 0), (.int .u8 0), (.int .u8 0), (.int .u8 0), (.int .u8 0), (.int .u8 0), (.int .u8 0), (.int .u8 0), (.int .u8 0), (.int .u8 0), (.int .u8 0), (.int .u8 0), (.int .u8 0), (.int .u8 0), (.int .u8 0), (.int .u8 0), (.int .u8 0), (.int .u8 0), (.int .u8 0), (.int .u8 0)] 123)])
  (.seq (.run [zr 16 (.mv (zt 0)), zc 17 67 [(zt 16)], za 6 (zt 17)])
  (.seq (.run [zr 18 (.mv (zt 6)), zr 19 (.sla 24 1 (zt 5) none (some (zt 18))), zr 20 (.mv (zt 0)), zc 21 68 [(zt 19), (zt 20)]])
  (.seq (.run [zr 22 (.mv (zt 6)), zr 23 (.sla 24 1 (zt 5) none (some (zt 22))), zr 24 (.b2s (zt 23)), za 4 (zt 24)])
  .ret))))
def rc47_1 : RC := (.seq (.run [zr 26 (.mv (zt 0)), zr 27 (.mv (zt 1)), zc 28 69 [(.const (.slice none 0 0)), (zt 26), (zt 27), (.const (.bool false)), (.const (.bool false))], zr 25 (.mv (zt 28)), zr 29 (.ext 0 (zt 25)), zr 30 (.ext 1 (zt 25)), za 7 (zt 29), za 8 (zt 30)])
  (.seq (.run [zr 31 (.mv (zt 8)), za 4 (zt 31)])
  .ret))
def rc47 : RC := (.seq (.run [za 4 (.const (.string ⟨#[]⟩))])
  (.seq (.seq (.run [zr 9 (.mv (zt 1)), zr 10 (.bin .eql (zt 9) (zi 10))])
  (.cond (zt 10)
  (.seq (.seq (.run [zr 11 (.mv (zt 0)), zr 12 (.bin .lss (zt 11) (.const (.int .u64 100)))])
  (.cond (zt 12)
  (.seq (.run [zr 13 (.mv (zt 0)), zr 14 (.cvi .i64 (zt 13)), zc 15 66 [(zt 14)], za 4 (zt 15)])
  .ret)
  .skip))
  rc47_0)
  .skip))
  rc47_1))
def ce47 : List (Nat × List Nat × List Nat) := []
def ro47 : List RO := [(.mv (zt 4))]
theorem ok47 : okFn Tryz.prog 47 32 ce47 = some (rc47, ro47) := by kernel_rfl
def rc48_0 : RC := (.seq (.run [zr 11 (.mv (zt 0)), zc 12 71 [(zt 11)], za 5 (zt 12)])
  (.seq (.run [zr 13 (.mv (zt 5)), zr 14 (.bin .shr (zt 13) (.const (.int .u64 8))), zr 15 (.cvi .u8 (zt 14)), zr 16 (.mv (zt 5)), zr 17 (.cvi .u8 (zt 16)), zf 18 (.bsl 5 1 2 [(.int .u8 0), (.int .u8 0)] [(0, 1, (zt 15)), (1, 1, (zt 17))]), za 4 (zt 18)])
  .ret))
def rc48 : RC := (.seq (.run [za 4 (.const (.slice none 0 0))])
  (.seq (.seq (.run [zr 6 (.mv (zt 1)), zr 7 (.not (zt 6))])
  (.cond (zt 7)
  (.seq (.run [zr 8 (.mv (zt 0)), zc 9 70 [(zt 8)], zf 10 (.bsl 5 1 1 [(.int .u8 0)] [(0, 1, (zt 9))]), za 4 (zt 10)])
  .ret)
  .skip))
  rc48_0))
def ce48 : List (Nat × List Nat × List Nat) := []
def ro48 : List RO := [(.mv (zt 4))]
theorem ok48 : okFn Tryz.prog 48 19 ce48 = some (rc48, ro48) := by kernel_rfl
def rc49 : RC := (.seq (.run [za 2 (.const (.bool false)), za 3 (.const .nilIface)])
  (.seq (.run [zr 4 (.mv (zt 0)), zr 5 (.nck (zt 4)), zr 6 (.fa 9 (zt 5)), zr 7 (.ld (zt 6)), zr 8 (.mv (zt 0)), zr 9 (.nck (zt 8)), zr 10 (.fa 10 (zt 9)), zr 11 (.ld (zt 10)), ⟨(some 2), none, (.a (zt 7)), [(11, none, .ld (zt 10))]⟩, za 3 (zt 11)])
  .ret))
def ce49 : List (Nat × List Nat × List Nat) := [(1, [0, 1, 2, 3, 4, 5, 6, 7, 8, 9], [0, 1, 3, 7, 0, 16, 48, 112, 15, 511])]
def ro49 : List RO := [(.mv (zt 2)), (.mv (zt 3))]
theorem ok49 : okFn Tryz.prog 49 12 ce49 = some (rc49, ro49) := by kernel_rfl
def rc50 : RC := (.seq (.run [za 2 (.const (.slice none 0 0))])
  (.seq (.run [zr 3 (.mv (zt 0)), zr 4 (.nck (zt 3)), zr 5 (.fa 8 (zt 4)), zr 6 (.ld (zt 5)), zf 7 (.app 5 1 1 (.const (.slice none 0 0)) (zt 6)), za 2 (zt 7)])
  .ret))
def ce50 : List (Nat × List Nat × List Nat) := []
def ro50 : List RO := [(.mv (zt 2))]
theorem ok50 : okFn Tryz.prog 50 8 ce50 = some (rc50, ro50) := by kernel_rfl
def rc51 : RC := (.seq (.run [za 2 (.const (.bool false)), za 3 (.const .nilIface)])
  (.seq (.run [zr 4 (.mv (zt 0)), zr 5 (.nck (zt 4)), zr 6 (.fa 11 (zt 5)), zr 7 (.ld (zt 6)), zr 8 (.mv (zt 0)), zr 9 (.nck (zt 8)), zr 10 (.fa 12 (zt 9)), zr 11 (.ld (zt 10)), ⟨(some 2), none, (.a (zt 7)), [(11, none, .ld (zt 10))]⟩, za 3 (zt 11)])
  .ret))
def ce51 : List (Nat × List Nat × List Nat) := [(1, [0, 1, 2, 3, 4, 5, 6, 7, 8, 9], [0, 1, 3, 7, 0, 16, 48, 112, 15, 511])]
def ro51 : List RO := [(.mv (zt 2)), (.mv (zt 3))]
theorem ok51 : okFn Tryz.prog 51 12 ce51 = some (rc51, ro51) := by kernel_rfl
def rc52 : RC := (.seq (.run [za 2 (.const (.slice none 0 0))])
  (.seq (.run [zr 3 (.mv (zt 0)), zr 4 (.nck (zt 3)), zr 5 (.fa 8 (zt 4)), zr 6 (.ld (zt 5)), zf 7 (.app 5 1 1 (.const (.slice none 0 0)) (zt 6)), za 2 (zt 7)])
  .ret))
def ce52 : List (Nat × List Nat × List Nat) := []
def ro52 : List RO := [(.mv (zt 2))]
theorem ok52 : okFn Tryz.prog 52 8 ce52 = some (rc52, ro52) := by kernel_rfl
def rc53_0 : RC := (.seq (.run [zr 68 (.mv (zt 0)), zr 69 (.ldn 4 (zt 8)), zr 70 (.nck (zt 68)), zr 71 (.fa 4 (zt 70)), ze (.st 4 (zt 71) (zt 69))])
  (.run [zr 72 (.mv (zt 0)), zr 73 (.mv (zt 0)), zr 74 (.nck (zt 73)), zr 75 (.fa 0 (zt 74)), zr 76 (.ldn 2 (zt 75)), zc 77 61 [(zt 76), (.const (.int .u8 1)), (.const (.bool true)), (.const (.bool true)), (zi 1)], zr 78 (.nck (zt 72)), zr 79 (.fa 2 (zt 78)), ze (.st 1 (zt 79) (zt 77))]))
def rc53_1 : RC := (.seq (.run [zr 94 (.mv (zt 0)), zr 95 (.mv (zt 7)), zr 96 (.mv (zt 0)), zr 97 (.nck (zt 96)), zr 98 (.fa 4 (zt 97)), zr 99 (.fa 1 (zt 98)), zr 100 (.ld (zt 99)), zr 101 (.sl 1 (zt 95) none (some (zt 100))), zr 102 (.nck (zt 94)), zr 103 (.fa 8 (zt 102)), ze (.st 1 (zt 103) (zt 101))])
  (.run [zr 104 (.mv (zt 0)), zr 105 (.mv (zt 0)), zr 106 (.nck (zt 105)), zr 107 (.fa 0 (zt 106)), zr 108 (.ldn 2 (zt 107)), zc 109 61 [(zt 108), (.const (.int .u8 0)), (.const (.bool true)), (.const (.bool false)), (zi 1)], zr 110 (.nck (zt 104)), zr 111 (.fa 2 (zt 110)), ze (.st 1 (zt 111) (zt 109))]))
def rc53_2 : RC := (.seq (.run [zr 112 (.mv (zt 1)), za 4 (zt 112)])
  .ret)
def rc53_3 : RC := (.seq (.run [zr 29 (.mv (zt 0)), zr 30 (.nck (zt 29)), zr 31 (.fa 2 (zt 30)), zr 32 (.ld (zt 31)), zc 33 52 [(zt 32)], za 7 (zt 33)])
  (.seq (.run [zr 34 (.mv (zt 0)), zr 35 (.nck (zt 34)), zr 36 (.fa 3 (zt 35)), zr 37 (.ld (zt 36)), zr 38 (.bin .add (zt 37) (zi 1)), zr 39 (.nck (zt 34)), zr 40 (.fa 3 (zt 39)), ze (.st 1 (zt 40) (zt 38))])
  (.seq (.seq (.run [zr 41 (.mv (zt 0)), zr 42 (.nck (zt 41)), zr 43 (.fa 3 (zt 42)), zr 44 (.ld (zt 43))])
  (.block 1 (.seq (.run [zr 56 (.bin .eql (zt 44) (zi 1)), za 55 (zt 56)])
  (.cond (zt 55)
  (.seq (.run [zr 58 (.mv (zt 7)), zc 59 73 [(zt 58)], zr 57 (.mv (zt 59)), zr 60 (.ext 0 (zt 57)), zr 61 (.ext 1 (zt 57)), zf 8 (.al [(.string ⟨#[]⟩), (.int .i64 0), (.int .i64 0), (.int .i64 0)] 102), ze (.st 4 (zt 8) (zt 60)), za 9 (zt 61)])
  (.seq (.seq (.run [zr 62 (.mv (zt 9)), zr 63 (.not (zt 62))])
  (.cond (zt 63)
  (.seq (.run [zr 64 (.mv (zt 0)), zr 65 (.mki 108 (zi 14)), zc 66 72 [(zt 64), (zt 65)]])
  (.seq (.run [zr 67 (.mv (zt 1)), za 4 (zt 67)])
  .ret))
  .skip))
  rc53_0))
  (.seq (.run [zr 81 (.bin .eql (zt 44) (zi 2)), za 80 (zt 81)])
  (.cond (zt 80)
  (.seq (.seq (.run [zr 82 (.mv (zt 7)), zr 83 (.lenl (zt 82)), zr 84 (.mv (zt 0)), zr 85 (.nck (zt 84)), zr 86 (.fa 4 (zt 85)), zr 87 (.fa 1 (zt 86)), zr 88 (.ld (zt 87)), zr 89 (.bin .lss (zt 83) (zt 88))])
  (.cond (zt 89)
  (.seq (.run [zr 90 (.mv (zt 0)), zr 91 (.mki 108 (zi 13)), zc 92 72 [(zt 90), (zt 91)]])
  (.seq (.run [zr 93 (.mv (zt 1)), za 4 (zt 93)])
  .ret))
  .skip))
  rc53_1)
  (.seq (.seq (.run [zr 45 (.mv (zt 7)), zc 46 74 [(zt 45)], zr 47 (.not (zt 46))])
  (.cond (zt 47)
  (.seq (.run [zr 48 (.mv (zt 0)), zr 49 (.mki 108 (zi 14)), zc 50 72 [(zt 48), (zt 49)]])
  (.seq (.run [zr 51 (.mv (zt 1)), za 4 (zt 51)])
  .ret))
  .skip))
  (.run [zr 52 (.mv (zt 0)), zr 53 (.nck (zt 52)), zr 54 (.fa 9 (zt 53)), ze (.st 1 (zt 54) (.const (.bool true)))]))))))))
  rc53_2)))
def rc53 : RC := (.seq (.run [za 4 (.const (.slice none 0 0))])
  (.seq (.run [zr 11 (.mv (zt 0)), zr 12 (.nck (zt 11)), zr 13 (.fa 2 (zt 12)), zr 14 (.ld (zt 13)), zc 15 51 [(zt 14)], zr 10 (.mv (zt 15)), zr 16 (.ext 0 (zt 10)), zr 17 (.ext 1 (zt 10)), za 5 (zt 16), za 6 (zt 17)])
  (.seq (.block 0 (.seq (.run [zr 19 (.mv (zt 5)), zr 20 (.not (zt 19)), za 18 (zt 20)])
  (.cond (zt 18)
  (.seq (.run [zr 21 (.mv (zt 1)), za 4 (zt 21)])
  .ret)
  (.seq (.run [zr 23 (.mv (zt 6)), zr 24 (.eq true (.iface []) (zt 23) (.const .nilIface)), za 22 (zt 24)])
  (.cond (zt 22)
  (.seq (.run [zr 25 (.mv (zt 0)), zr 26 (.mv (zt 6)), zc 27 72 [(zt 25), (zt 26)]])
  (.seq (.run [zr 28 (.mv (zt 1)), za 4 (zt 28)])
  .ret))
  .skip)))))
  rc53_3)))
def ce53 : List (Nat × List Nat × List Nat) := []
def ro53 : List RO := [(.mv (zt 4))]
theorem ok53 : okFn Tryz.prog 53 113 ce53 = some (rc53, ro53) := by kernel_rfl
def rc54 : RC := (.seq (.run [za 6 (.const (.slice none 0 0))])
  (.seq (.run [zr 7 (.mv (zt 0)), zr 8 (.mv (zt 0)), zr 9 (.mv (zt 1)), zr 10 (.nck (zt 7)), zr 11 (.fa 11 (zt 10)), ze (.st 1 (zt 11) (.const (.bool true))), zr 12 (.nck (zt 8)), zr 13 (.fa 12 (zt 12)), ze (.st 1 (zt 13) (zt 9))])
  (.seq (.run [zr 14 (.mv (zt 2)), za 6 (zt 14)])
  .ret)))
def ce54 : List (Nat × List Nat × List Nat) := []
def ro54 : List RO := [(.mv (zt 6))]
theorem ok54 : okFn Tryz.prog 54 15 ce54 = some (rc54, ro54) := by kernel_rfl
def rc55_0 : RC := (.seq (.run [za 2 (.const (.int .u8 21))])
  .ret)
def rc55 : RC := (.seq (.run [za 2 (.const (.int .u8 0))])
  (.seq (.seq (.run [zr 3 (.mv (zt 0)), zr 4 (.nck (zt 3)), zr 5 (.fa 0 (zt 4)), zr 6 (.ld (zt 5)), zr 7 (.mv (zt 6)), zg 8 7 true (.mv (zt 0)), zg 9 7 true (.nck (zt 8)), zg 10 7 true (.fa 5 (zt 9)), zg 11 7 true (.ld (zt 10)), zg 12 7 true (.not (zt 11)), zr 13 (.pick (zt 7) (zt 12) (.const (.bool false)))])
  (.cond (zt 13)
  (.seq (.run [za 2 (.const (.int .u8 67))])
  .ret)
  .skip))
  rc55_0))
def ce55 : List (Nat × List Nat × List Nat) := []
def ro55 : List RO := [(.mv (zt 2))]
theorem ok55 : okFn Tryz.prog 55 14 ce55 = some (rc55, ro55) := by kernel_rfl
def rc56_0 : RC := (.seq (.run [zr 64 (.bld [(.int .u8 0), (.slice none 0 0)] []), ze (.st 2 (zt 4) (zt 64)), za 5 (zi 1)])
  .ret)
def rc56_1 : RC := (.seq (.label 1)
  rc56_0)
def rc56_2 : RC := (.seq (.seq (.run [zr 63 (.bld [(.int .u8 0), (.slice none 0 0)] []), ze (.st 2 (zt 4) (zt 63)), za 5 (zi 0)])
  .ret)
  rc56_1)
def rc56_3 : RC := (.seq (.label 0)
  rc56_2)
def rc56_4 : RC := (.seq (.seq (.run [zr 62 (.ldn 2 (zt 6)), ze (.st 2 (zt 4) (zt 62)), za 5 (zi 2)])
  .ret)
  rc56_3)
def rc56_5 : RC := (.seq (.run [zr 35 (.mv (zt 0)), zr 36 (.ia 1 (zt 35) (zi 1)), zr 37 (.ld (zt 36)), zr 38 (.fa 0 (zt 6)), ze (.st 1 (zt 38) (zt 37))])
  (.seq (.run [zr 39 (.mv (zt 0)), zr 40 (.mv (zt 7)), zr 41 (.mv (zt 1)), zc 42 48 [(.const (.slice none 0 0)), (zt 41)], zr 43 (.lenl (zt 42)), zr 44 (.bin .sub (zt 40) (zt 43)), zr 45 (.sl 1 (zt 39) (some (zi 3)) (some (zt 44))), zf 46 (.app 5 1 1 (.const (.slice none 0 0)) (zt 45)), zr 47 (.fa 1 (zt 6)), ze (.st 1 (zt 47) (zt 46))])
  (.seq (.seq (.run [zr 48 (.fa 1 (zt 6)), zr 49 (.ld (zt 48)), zr 50 (.mv (zt 1)), zr 53 (.mv (zt 0)), zr 54 (.fa 1 (zt 6)), zr 55 (.ld (zt 54)), zr 56 (.lenl (zt 55)), zr 57 (.bin .add (zi 3) (zt 56)), zr 58 (.mv (zt 7)), zr 59 (.sl 1 (zt 53) (some (zt 57)) (some (zt 58))), zr 60 (.b2s (zt 59)), ⟨(some 51), none, (.c (.fn 48 [(zt 49), (zt 50)])), [(55, none, .ld (zt 54)), (60, none, .b2s (zt 59))]⟩, zr 52 (.b2s (zt 51)), zr 61 (.bin .neq (zt 52) (zt 60))])
  (.cond (zt 61)
  (.goto 1)
  .skip))
  rc56_4)))
def rc56_6 : RC := (.seq (.seq (.run [zr 31 (.mv (zt 0)), zr 32 (.lenl (zt 31)), zr 33 (.mv (zt 7)), zr 34 (.bin .lss (zt 32) (zt 33))])
  (.cond (zt 34)
  (.goto 0)
  .skip))
  rc56_5)
def rc56_7 : RC := (.seq (.seq (.run [zr 18 (.mv (zt 0)), zr 19 (.lenl (zt 18)), zr 20 (.bin .gtr (zt 19) (zi 2)), zr 21 (.mv (zt 20)), zg 22 21 true (.mv (zt 0)), zg 23 21 true (.ia 1 (zt 22) (zi 1)), zg 24 21 true (.ld (zt 23)), zg 25 21 true (.mv (zt 0)), zg 26 21 true (.ia 1 (zt 25) (zi 2)), zg 27 21 true (.ld (zt 26)), zg 28 21 true (.com (zt 27)), zg 29 21 true (.bin .neq (zt 24) (zt 28)), zr 30 (.pick (zt 21) (zt 29) (.const (.bool false)))])
  (.cond (zt 30)
  (.goto 1)
  .skip))
  rc56_6)
def rc56_8 : RC := (.seq (.run [zr 11 (.mv (zt 0)), zr 12 (.ia 1 (zt 11) (zi 0)), zr 13 (.ld (zt 12)), zr 14 (.mv (zt 1)), zc 15 75 [(zt 13), (zt 14)], za 7 (zt 15)])
  (.seq (.seq (.run [zr 16 (.mv (zt 7)), zr 17 (.bin .eql (zt 16) (zi 0))])
  (.cond (zt 17)
  (.goto 1)
  .skip))
  rc56_7))
def rc56_9 : RC := (.seq .skip
  rc56_2)
def rc56_10 : RC := (.seq .skip
  rc56_0)
def rc56 : RC := (.seq (.run [zf 4 (.al [(.int .u8 0), (.slice none 0 0)] 90), za 5 (zi 0)])
  (.jumps (.seq (.run [zf 6 (.al [(.int .u8 0), (.slice none 0 0)] 90)])
  (.seq (.run [za 7 (zi 0)])
  (.seq (.seq (.run [zr 8 (.mv (zt 0)), zr 9 (.lenl (zt 8)), zr 10 (.bin .eql (zt 9) (zi 0))])
  (.cond (zt 10)
  (.goto 0)
  .skip))
  rc56_8))) 0 rc56_9 1 rc56_10))
def ce56 : List (Nat × List Nat × List Nat) := [(6, [0, 1, 2, 3, 4, 5, 6, 7, 8, 9, 10, 11, 12], [0, 1, 3, 7, 15, 31, 63, 15, 143, 399, 911, 2047, 4095]), (10, [0, 1, 2, 5, 6, 7, 8, 9, 10, 11, 12, 3, 4, 13], [0, 1, 0, 7, 15, 0, 0, 64, 192, 448, 0, 2016, 4064, 8191])]
def ro56 : List RO := [(.ldn 2 (zt 4)), (.mv (zt 5))]
theorem ok56 : okFn Tryz.prog 56 65 ce56 = some (rc56, ro56) := by kernel_rfl
def rc57_0 : RC := (.seq (.run [zf 79 (.bsl 5 1 1 [(.int .u8 0)] [(0, 1, (.const (.int .u8 6)))]), za 4 (zt 79)])
  .ret)
def rc57_1 : RC := (.seq (.seq (.run [zr 60 (.mv (zt 0)), zr 61 (.nck (zt 60)), zr 62 (.fa 6 (zt 61)), zr 63 (.ld (zt 62)), zr 64 (.not (zt 63)), zr 65 (.mv (zt 64)), zg 66 65 true (.mv (zt 0)), zg 67 65 true (.nck (zt 66)), zg 68 65 true (.fa 9 (zt 67)), zg 69 65 true (.ld (zt 68)), zg 70 65 true (.mv (zt 0)), zg 71 65 true (.nck (zt 70)), zg 72 65 true (.fa 10 (zt 71)), zg 73 65 true (.ld (zt 72)), zg 74 65 true (.bin .eql (zt 69) (zt 73)), zr 75 (.pick (zt 65) (zt 74) (.const (.bool false)))])
  (.cond (zt 75)
  (.seq (.run [zr 76 (.mv (zt 0)), zf 77 (.bsl 5 1 1 [(.int .u8 0)] [(0, 1, (.const (.int .u8 6)))]), zc 78 54 [(zt 76), (.const .nilIface), (zt 77)], za 4 (zt 78)])
  .ret)
  .skip))
  rc57_0)
def rc57 : RC := (.seq (.run [zf 3 (.bx 90 (zt 1)), za 4 (.const (.slice none 0 0))])
  (.seq (.block 0 (.seq (.run [zr 6 (.fa 0 (zt 3)), zr 7 (.ld (zt 6)), zr 8 (.mv (zt 0)), zr 9 (.nck (zt 8)), zr 10 (.fa 4 (zt 9)), zr 11 (.ld (zt 10)), zr 12 (.bin .eql (zt 7) (zt 11)), za 5 (zt 12)])
  (.cond (zt 5)
  (.seq (.run [zr 13 (.mv (zt 0)), zr 14 (.mv (zt 0)), zr 15 (.nck (zt 14)), zr 16 (.fa 8 (zt 15)), zr 17 (.ld (zt 16)), zr 18 (.fa 1 (zt 3)), zr 19 (.ld (zt 18)), zf 20 (.app 5 1 1 (zt 17) (zt 19)), zr 21 (.nck (zt 13)), zr 22 (.fa 8 (zt 21)), ze (.st 1 (zt 22) (zt 20))])
  (.seq (.run [zr 23 (.mv (zt 0)), zr 24 (.nck (zt 23)), zr 25 (.fa 4 (zt 24)), zr 26 (.ld (zt 25)), zr 27 (.bin .add (zt 26) (.const (.int .u8 1))), zr 28 (.nck (zt 23)), zr 29 (.fa 4 (zt 28)), ze (.st 1 (zt 29) (zt 27))])
  (.seq (.run [zr 30 (.mv (zt 0)), zr 31 (.nck (zt 30)), zr 32 (.fa 9 (zt 31)), zr 33 (.ld (zt 32)), zr 34 (.bin .add (zt 33) (zi 1)), zr 35 (.nck (zt 30)), zr 36 (.fa 9 (zt 35)), ze (.st 1 (zt 36) (zt 34))])
  (.run [zr 37 (.mv (zt 0)), zr 38 (.nck (zt 37)), zr 39 (.fa 5 (zt 38)), ze (.st 1 (zt 39) (.const (.bool true)))]))))
  (.seq (.run [zr 41 (.mv (zt 0)), zr 42 (.nck (zt 41)), zr 43 (.fa 5 (zt 42)), zr 44 (.ld (zt 43)), zr 45 (.not (zt 44)), zr 46 (.mv (zt 45)), zg 47 46 false (.fa 0 (zt 3)), zg 48 46 false (.ld (zt 47)), zg 49 46 false (.mv (zt 0)), zg 50 46 false (.nck (zt 49)), zg 51 46 false (.fa 4 (zt 50)), zg 52 46 false (.ld (zt 51)), zg 53 46 false (.bin .sub (zt 52) (.const (.int .u8 1))), zg 54 46 false (.bin .neq (zt 48) (zt 53)), zr 55 (.pick (zt 46) (.const (.bool true)) (zt 54)), za 40 (zt 55)])
  (.cond (zt 40)
  (.seq (.run [zr 56 (.mv (zt 0)), zr 57 (.mki 108 (zi 14)), zf 58 (.bsl 5 1 2 [(.int .u8 0), (.int .u8 0)] [(0, 1, (.const (.int .u8 24))), (1, 1, (.const (.int .u8 24)))]), zc 59 54 [(zt 56), (zt 57), (zt 58)], za 4 (zt 59)])
  .ret)
  .skip)))))
  rc57_1))
def ce57 : List (Nat × List Nat × List Nat) := [(1, [0, 1, 2, 3, 4, 5, 6, 7], [0, 1, 0, 4, 12, 28, 63, 127]), (2, [0, 1, 2, 3, 4, 5, 6, 7, 8, 9, 10], [0, 0, 2, 6, 14, 0, 32, 126, 255, 511, 1023]), (6, [0, 1, 2, 3, 4, 5, 6, 7, 8, 9, 10, 11, 12, 13, 14, 15], [0, 1, 3, 7, 15, 31, 63, 127, 63, 319, 831, 1855, 3903, 8191, 16383, 32767]), (8, [0, 1, 2, 3, 4, 5, 6, 7, 8, 9, 10, 11, 12, 13, 14, 15], [0, 1, 3, 7, 15, 31, 63, 127, 255, 511, 63, 1087, 3135, 7231, 16383, 32767])]
def ro57 : List RO := [(.mv (zt 4))]
theorem ok57 : okFn Tryz.prog 57 80 ce57 = some (rc57, ro57) := by kernel_rfl
def rc58_0 : RC := (.seq (.block 1 (.seq (.run [zr 12 (.mv (zt 0)), zr 13 (.mv (zt 4)), zr 14 (.ixs (zt 12) (zt 13)), zr 15 (.bin .eql (zt 14) (.const (.int .u8 32)))])
  (.cond (zt 15)
  (.run [zr 16 (.mv (zt 3)), zf 17 (.bsl 9 1 1 [(.string ⟨#[]⟩)] [(0, 1, (.const (.string ⟨#[]⟩)))]), zf 18 (.app 9 1 16 (zt 16) (zt 17)), za 3 (zt 18)])
  (.run [zr 19 (.mv (zt 3)), zr 20 (.mv (zt 3)), zr 21 (.lenl (zt 20)), zr 22 (.bin .sub (zt 21) (zi 1)), zr 23 (.mv (zt 3)), zr 24 (.mv (zt 3)), zr 25 (.lenl (zt 24)), zr 26 (.bin .sub (zt 25) (zi 1)), zr 27 (.ia 1 (zt 23) (zt 26)), zr 28 (.ld (zt 27)), zr 29 (.mv (zt 0)), zr 30 (.mv (zt 4)), zr 31 (.mv (zt 4)), zr 32 (.bin .add (zt 31) (zi 1)), zr 33 (.sls (zt 29) (some (zt 30)) (some (zt 32))), zr 34 (.bin .add (zt 28) (zt 33)), zr 35 (.ia 1 (zt 19) (zt 22)), ze (.st 1 (zt 35) (zt 34))]))))
  (.run [zr 10 (.mv (zt 4)), zr 11 (.bin .add (zt 10) (zi 1)), za 4 (zt 11)]))
def rc58_1 : RC := (.seq (.seq (.run [zr 6 (.mv (zt 4)), zr 7 (.mv (zt 0)), zr 8 (.lens (zt 7)), zr 9 (.bin .lss (zt 6) (zt 8))])
  (.cond (zt 9)
  .skip
  (.exit 0)))
  rc58_0)
def rc58_2 : RC := (.seq (.run [zr 36 (.mv (zt 3)), za 2 (zt 36)])
  .ret)
def rc58 : RC := (.seq (.run [za 2 (.const (.slice none 0 0))])
  (.seq (.run [zf 5 (.bsl 9 1 1 [(.string ⟨#[]⟩)] [(0, 1, (.const (.string ⟨#[]⟩)))]), za 3 (zt 5)])
  (.seq (.seq (.run [za 4 (zi 0)])
  (.block 0 (.loop rc58_1)))
  rc58_2)))
def ce58 : List (Nat × List Nat × List Nat) := [(7, [0, 1, 2, 3, 4, 5, 6, 7, 8, 9, 10, 11, 12, 13, 14, 15, 16, 17], [0, 0, 2, 6, 0, 0, 32, 96, 240, 496, 0, 0, 0, 4096, 15360, 32752, 65535, 131071])]
def ro58 : List RO := [(.mv (zt 2))]
theorem ok58 : okFn Tryz.prog 58 37 ce58 = some (rc58, ro58) := by kernel_rfl
def rc59_0 : RC := (.seq (.block 3 (.seq (.run [zr 18 (.mv (zt 7)), zr 19 (.ixs (.const (.string ⟨#[48, 49, 50, 51, 52, 53, 54, 55, 56, 57, 97, 98, 99, 100, 101, 102]⟩)) (zt 18)), zr 20 (.mv (zt 0)), zr 21 (.mv (zt 5)), zr 22 (.ixs (zt 20) (zt 21)), zr 23 (.bin .eql (zt 19) (zt 22))])
  (.cond (zt 23)
  (.run [zr 24 (.mv (zt 7)), za 6 (zt 24)])
  .skip)))
  (.run [zr 16 (.mv (zt 7)), zr 17 (.bin .add (zt 16) (zi 1)), za 7 (zt 17)]))
def rc59_1 : RC := (.seq (.seq (.run [zr 14 (.mv (zt 7)), zr 15 (.bin .lss (zt 14) (zi 16))])
  (.cond (zt 15)
  .skip
  (.exit 2)))
  rc59_0)
def rc59_2 : RC := (.seq (.seq (.run [zr 25 (.mv (zt 6)), zr 26 (.bin .lss (zt 25) (zi 0)), zr 27 (.mv (zt 26)), zg 28 27 false (.mv (zt 5)), zg 29 27 false (.bin .eql (zt 28) (zi 8)), zr 30 (.pick (zt 27) (.const (.bool true)) (zt 29))])
  (.cond (zt 30)
  (.seq (.run [za 2 (zi 0), za 3 (.const (.bool false))])
  .ret)
  .skip))
  (.run [zr 31 (.mv (zt 4)), zr 32 (.bin .mul (zt 31) (zi 16)), zr 33 (.mv (zt 6)), zr 34 (.bin .add (zt 32) (zt 33)), za 4 (zt 34)]))
def rc59_3 : RC := (.seq (.block 1 (.seq (.run [za 6 (zi (-1))])
  (.seq (.seq (.run [za 7 (zi 0)])
  (.block 2 (.loop rc59_1)))
  rc59_2)))
  (.run [zr 12 (.mv (zt 5)), zr 13 (.bin .add (zt 12) (zi 1)), za 5 (zt 13)]))
def rc59_4 : RC := (.seq (.seq (.run [zr 8 (.mv (zt 5)), zr 9 (.mv (zt 0)), zr 10 (.lens (zt 9)), zr 11 (.bin .lss (zt 8) (zt 10))])
  (.cond (zt 11)
  .skip
  (.exit 0)))
  rc59_3)
def rc59_5 : RC := (.seq (.run [zr 35 (.mv (zt 4)), zr 36 (.mv (zt 0)), zr 37 (.lens (zt 36)), zr 38 (.bin .gtr (zt 37) (zi 0)), zr 39 (.mv (zt 38)), zg 40 39 true (.mv (zt 4)), ⟨(some 41), (some (39, true)), (.c (.fn 21 [(zt 40)])), []⟩, zg 42 39 true (.mv (zt 0)), zg 43 39 true (.bin .eql (zt 41) (zt 42)), zr 44 (.pick (zt 39) (zt 43) (.const (.bool false))), za 2 (zt 35), za 3 (zt 44)])
  .ret)
def rc59 : RC := (.seq (.run [za 2 (zi 0), za 3 (.const (.bool false))])
  (.seq (.run [za 4 (zi 0)])
  (.seq (.seq (.run [za 5 (zi 0)])
  (.block 0 (.loop rc59_4)))
  rc59_5)))
def ce59 : List (Nat × List Nat × List Nat) := [(9, [0, 1, 2, 3, 4, 5], [0, 1, 0, 0, 12, 31])]
def ro59 : List RO := [(.mv (zt 2)), (.mv (zt 3))]
theorem ok59 : okFn Tryz.prog 59 45 ce59 = some (rc59, ro59) := by kernel_rfl
def rc60 : RC := (.seq (.run [zf 1 (.bx 28 (zt 0)), za 2 (.const (.pointer none))])
  (.seq (.run [zr 3 (.ldn 2 (zt 1)), zr 4 (.ldn 2 (zt 1)), ⟨(some 5), none, (.c (.fn 61 [(zt 4), (.const (.int .u8 0)), (.const (.bool true)), (.const (.bool false)), (zi 1)])), [(3, none, .ldn 2 (zt 1))]⟩, zr 6 (.bld [(.int .i64 0), (.int .i64 0), (.pointer none), (.int .i64 0), (.string ⟨#[]⟩), (.int .i64 0), (.int .i64 0), (.int .i64 0), (.slice none 0 0), (.bool false), .nilIface] [(0, 2, (zt 3)), (2, 1, (zt 5))]), zf 7 (.bx 104 (zt 6)), za 2 (zt 7)])
  .ret))
def ce60 : List (Nat × List Nat × List Nat) := [(1, [0, 1, 2, 3, 4, 5], [0, 0, 2, 7, 15, 31])]
def ro60 : List RO := [(.mv (zt 2))]
theorem ok60 : okFn Tryz.prog 60 8 ce60 = some (rc60, ro60) := by kernel_rfl
def rc61 : RC := (.seq (.run [zf 5 (.bx 28 (zt 0)), za 10 (.const (.pointer none))])
  (.seq (.run [zr 13 (.fa 1 (zt 5)), zr 14 (.ld (zt 13)), zr 15 (.mn (zt 14) (zi 99)), zr 16 (.mx (zi 1) (zt 15)), zr 17 (.fa 0 (zt 5)), zr 18 (.ld (zt 17)), zr 19 (.mn (zt 18) (zi 9)), zr 20 (.mx (zi 1) (zt 19)), ⟨(some 11), none, (.a (zt 16)), [(18, none, .ld (zt 17))]⟩, za 12 (zt 20)])
  (.seq (.run [zr 21 (.mv (zt 2)), zr 22 (.mv (zt 11)), zr 23 (.mv (zt 12)), zr 24 (.mv (zt 1)), zr 25 (.mv (zt 3)), zr 26 (.mv (zt 4)), zr 27 (.mx (zi 1) (zt 26)), zr 28 (.bld [(.bool false), (.int .i64 0), (.int .i64 0), (.int .i64 0), (.int .u8 0), (.bool false), (.bool false), (.slice none 0 0), (.slice none 0 0), (.int .i64 0), (.int .i64 0), (.bool false), .nilIface] [(0, 1, (zt 21)), (1, 1, (zt 22)), (2, 1, (zt 23)), (3, 1, (zi 1)), (4, 1, (zt 24)), (6, 1, (zt 25)), (10, 1, (zt 27))]), zf 29 (.bx 106 (zt 28)), za 10 (zt 29)])
  .ret)))
def ce61 : List (Nat × List Nat × List Nat) := [(1, [0, 1, 2, 3, 4, 5, 6, 7, 8, 9], [0, 1, 3, 7, 0, 16, 48, 112, 15, 511])]
def ro61 : List RO := [(.mv (zt 10))]
theorem ok61 : okFn Tryz.prog 61 30 ce61 = some (rc61, ro61) := by kernel_rfl
def rc62 : RC := (.seq (.run [za 4 (.const (.slice none 0 0))])
  (.seq (.run [zr 5 (.mv (zt 0)), zr 6 (.mv (zt 1)), zc 7 76 [(zt 5), (zt 6), (zi 0), (zi (-1))], za 4 (zt 7)])
  .ret))
def ce62 : List (Nat × List Nat × List Nat) := []
def ro62 : List RO := [(.mv (zt 4))]
theorem ok62 : okFn Tryz.prog 62 8 ce62 = some (rc62, ro62) := by kernel_rfl
def rc63 : RC := (.seq (.run [za 2 (zi 0), za 3 (.const (.bool false))])
  (.seq (.run [zr 7 (.mv (zt 0)), zc 8 77 [(zt 7), (zi 16), (zi 32)], zr 6 (.mv (zt 8)), zr 9 (.ext 0 (zt 6)), zr 10 (.ext 1 (zt 6)), za 4 (zt 9), za 5 (zt 10)])
  (.seq (.run [zr 11 (.mv (zt 4)), zr 12 (.cvi .i64 (zt 11)), zr 13 (.mv (zt 5)), zr 14 (.eq false (.iface []) (zt 13) (.const .nilIface)), zr 15 (.mv (zt 14)), zg 16 15 true (.mv (zt 4)), ⟨(some 17), (some (15, true)), (.c (.fn 34 [(zt 16), (zi 16)])), []⟩, zg 18 15 true (.mv (zt 0)), zg 19 15 true (.bin .eql (zt 17) (zt 18)), zr 20 (.pick (zt 15) (zt 19) (.const (.bool false))), za 2 (zt 12), za 3 (zt 20)])
  .ret)))
def ce63 : List (Nat × List Nat × List Nat) := []
def ro63 : List RO := [(.mv (zt 2)), (.mv (zt 3))]
theorem ok63 : okFn Tryz.prog 63 21 ce63 = some (rc63, ro63) := by kernel_rfl
def rc64_0 : RC := (.seq (.run [za 6 (.const (.bool true))])
  .ret)
def rc64_1 : RC := (.seq (.run [zr 19 (.mv (zt 0)), zr 20 (.mv (zt 2)), zr 21 (.nck (zt 19)), zr 22 (.fa 6 (zt 21)), ze (.st 1 (zt 22) (zt 20))])
  (.seq (.seq (.run [zr 23 (.mv (zt 7)), zr 24 (.bin .eql (zt 23) (zi 3))])
  (.cond (zt 24)
  (.run [zr 25 (.mv (zt 0)), zr 26 (.mv (zt 0)), zr 27 (.nck (zt 26)), zr 28 (.fa 1 (zt 27)), zr 29 (.ldn 2 (zt 28)), zc 30 60 [(zt 29)], zr 31 (.mki 92 (zt 30)), zr 32 (.nck (zt 25)), zr 33 (.fa 5 (zt 32)), ze (.st 1 (zt 33) (zt 31))])
  (.run [zr 34 (.mv (zt 0)), zr 35 (.mv (zt 0)), zr 36 (.nck (zt 35)), zr 37 (.fa 1 (zt 36)), zr 38 (.ldn 2 (zt 37)), zr 39 (.mv (zt 7)), zr 40 (.bin .neq (zt 39) (zi 0)), zc 41 61 [(zt 38), (.const (.int .u8 1)), (zt 40), (.const (.bool true)), (zi 1)], zr 42 (.mki 91 (zt 41)), zr 43 (.nck (zt 34)), zr 44 (.fa 5 (zt 43)), ze (.st 1 (zt 44) (zt 42))])))
  rc64_0))
def rc64_2 : RC := (.seq (.block 1 (.seq (.run [zr 13 (.mv (zt 11)), zr 14 (.ia 1 (zt 9) (zt 11)), zr 15 (.ld (zt 14)), za 7 (zt 13), za 8 (zt 15)])
  (.seq (.seq (.run [zr 16 (.mv (zt 8)), zr 17 (.mv (zt 1)), zr 18 (.bin .neq (zt 16) (zt 17))])
  (.cond (zt 18)
  (.exit 1)
  .skip))
  rc64_1)))
  (.run [zr 45 (.bin .add (zt 11) (zi 1)), zr 11 (.mv (zt 45))]))
def rc64_3 : RC := (.seq (.run [zr 12 (.bin .lss (zt 11) (zt 10))])
  (.seq (.cond (zt 12)
  .skip
  (.exit 0))
  rc64_2))
def rc64_4 : RC := (.seq (.run [za 6 (.const (.bool false))])
  .ret)
def rc64 : RC := (.seq (.run [za 6 (.const (.bool false))])
  (.seq (.seq (.run [zc 9 35 [], zr 10 (.lenl (zt 9)), zr 11 (.mv (zi 0))])
  (.block 0 (.loop rc64_3)))
  rc64_4))
def ce64 : List (Nat × List Nat × List Nat) := []
def ro64 : List RO := [(.mv (zt 6))]
theorem ok64 : okFn Tryz.prog 64 46 ce64 = some (rc64, ro64) := by kernel_rfl
def rc65_0 : RC := (.seq (.run [zr 12 (.mv (zt 0)), zr 13 (.nck (zt 12)), zr 14 (.fa 0 (zt 13)), zr 15 (.mv (zt 1)), zr 16 (.mv (zt 1)), zr 17 (.mv (zt 2)), zr 18 (.bin .add (zt 16) (zt 17)), zr 19 (.sla 16384 1 (zt 14) (some (zt 15)) (some (zt 18))), zc 20 16 [(zt 19)], za 6 (zt 20), za 7 (.const (.bool true))])
  .ret)
def rc65 : RC := (.seq (.run [za 6 (.const (.int .u32 0)), za 7 (.const (.bool false))])
  (.seq (.seq (.run [zr 8 (.mv (zt 1)), zr 9 (.mv (zt 2)), zc 10 28 [(zt 8), (zt 9)], zr 11 (.not (zt 10))])
  (.cond (zt 11)
  (.seq (.run [za 6 (.const (.int .u32 0)), za 7 (.const (.bool false))])
  .ret)
  .skip))
  rc65_0))
def ce65 : List (Nat × List Nat × List Nat) := []
def ro65 : List RO := [(.mv (zt 6)), (.mv (zt 7))]
theorem ok65 : okFn Tryz.prog 65 21 ce65 = some (rc65, ro65) := by kernel_rfl
def rc66_0 : RC := (.seq (.run [zr 9 (.mv (zt 0)), zr 10 (.bin .mul (zt 9) (zi 2)), zr 11 (.mv (zt 0)), zr 12 (.bin .mul (zt 11) (zi 2)), zr 13 (.bin .add (zt 12) (zi 2)), zr 14 (.sls (.const (.string ⟨#[48, 48, 48, 49, 48, 50, 48, 51, 48, 52, 48, 53, 48, 54, 48, 55, 48, 56, 48, 57, 49, 48, 49, 49, 49, 50, 49, 51, 49, 52, 49, 53, 49, 54, 49, 55, 49, 56, 49, 57, 50, 48, 50, 49, 50, 50, 50, 51, 50, 52, 50, 53, 50, 54, 50, 55, 50, 56, 50, 57, 51, 48, 51, 49, 51, 50, 51, 51, 51, 52, 51, 53, 51, 54, 51, 55, 51, 56, 51, 57, 52, 48, 52, 49, 52, 50, 52, 51, 52, 52, 52, 53, 52, 54, 52, 55, 52, 56, 52, 57, 53, 48, 53, 49, 53, 50, 53, 51, 53, 52, 53, 53, 53, 54, 53, 55, 53, 56, 53, 57, 54, 48, 54, 49, 54, 50, 54, 51, 54, 52, 54, 53, 54, 54, 54, 55, 54, 56, 54, 57, 55, 48, 55, 49, 55, 50, 55, 51, 55, 52, 55, 53, 55, 54, 55, 55, 55, 56, 55, 57, 56, 48, 56, 49, 56, 50, 56, 51, 56, 52, 56, 53, 56, 54, 56, 55, 56, 56, 56, 57, 57, 48, 57, 49, 57, 50, 57, 51, 57, 52, 57, 53, 57, 54, 57, 55, 57, 56, 57, 57]⟩)) (some (zt 10)) (some (zt 13))), za 2 (zt 14)])
  .ret)
def rc66 : RC := (.seq (.run [za 2 (.const (.string ⟨#[]⟩))])
  (.seq (.seq (.run [zr 3 (.mv (zt 0)), zr 4 (.bin .lss (zt 3) (zi 10))])
  (.cond (zt 4)
  (.seq (.run [zr 5 (.mv (zt 0)), zr 6 (.mv (zt 0)), zr 7 (.bin .add (zt 6) (zi 1)), zr 8 (.sls (.const (.string ⟨#[48, 49, 50, 51, 52, 53, 54, 55, 56, 57, 97, 98, 99, 100, 101, 102, 103, 104, 105, 106, 107, 108, 109, 110, 111, 112, 113, 114, 115, 116, 117, 118, 119, 120, 121, 122]⟩)) (some (zt 5)) (some (zt 7))), za 2 (zt 8)])
  .ret)
  .skip))
  rc66_0))
def ce66 : List (Nat × List Nat × List Nat) := []
def ro66 : List RO := [(.mv (zt 2))]
theorem ok66 : okFn Tryz.prog 66 15 ce66 = some (rc66, ro66) := by kernel_rfl
def rc67 : RC := (.seq (.run [za 2 (zi 0)])
  (.seq (.run [zr 4 (.mv (zt 0)), zc 5 79 [(zt 4)], zc 6 78 [(zt 5)], za 3 (zt 6)])
  (.seq (.run [zr 7 (.mv (zt 3)), zr 8 (.mv (zt 0)), zr 9 (.mv (zt 3)), zr 10 (.iaa 20 1 (.global 0) (zt 9)), zr 11 (.ld (zt 10)), zr 12 (.bin .geq (zt 8) (zt 11)), zc 13 80 [(zt 12)], zr 14 (.bin .add (zt 7) (zt 13)), za 2 (zt 14)])
  .ret)))
def ce67 : List (Nat × List Nat × List Nat) := []
def ro67 : List RO := [(.mv (zt 2))]
theorem ok67 : okFn Tryz.prog 67 15 ce67 = some (rc67, ro67) := by kernel_rfl
def rc68_0 : RC := (.block 1 (.seq (.run [zr 21 (.mv (zt 1)), zr 22 (.bin .rem (zt 21) (.const (.int .u64 100000000))), zr 23 (.cvi .u32 (zt 22)), za 5 (zt 23)])
  (.seq (.run [zr 24 (.mv (zt 1)), zr 25 (.bin .quo (zt 24) (.const (.int .u64 100000000))), za 1 (zt 25)])
  (.seq (.run [zr 26 (.mv (zt 5)), zr 27 (.bin .quo (zt 26) (.const (.int .u32 10000))), zr 28 (.mv (zt 5)), zr 29 (.bin .rem (zt 28) (.const (.int .u32 10000))), za 6 (zt 27), za 7 (zt 29)])
  (.seq (.run [zr 30 (.mv (zt 7)), zr 31 (.bin .quo (zt 30) (.const (.int .u32 100))), zr 32 (.bin .mul (zt 31) (.const (.int .u32 2))), zr 33 (.mv (zt 7)), zr 34 (.bin .rem (zt 33) (.const (.int .u32 100))), zr 35 (.bin .mul (zt 34) (.const (.int .u32 2))), za 8 (zt 32), za 9 (zt 35)])
  (.seq (.run [zr 36 (.mv (zt 6)), zr 37 (.bin .quo (zt 36) (.const (.int .u32 100))), zr 38 (.bin .mul (zt 37) (.const (.int .u32 2))), zr 39 (.mv (zt 6)), zr 40 (.bin .rem (zt 39) (.const (.int .u32 100))), zr 41 (.bin .mul (zt 40) (.const (.int .u32 2))), za 10 (zt 38), za 11 (zt 41)])
  (.seq (.run [zr 42 (.mv (zt 0)), zr 43 (.mv (zt 4)), zr 44 (.bin .sub (zt 43) (zi 1)), zr 45 (.mv (zt 0)), zr 46 (.mv (zt 4)), zr 47 (.bin .sub (zt 46) (zi 2)), zr 48 (.mv (zt 9)), zr 49 (.bin .add (zt 48) (.const (.int .u32 1))), zr 50 (.ixs (.const (.string ⟨#[48, 48, 48, 49, 48, 50, 48, 51, 48, 52, 48, 53, 48, 54, 48, 55, 48, 56, 48, 57, 49, 48, 49, 49, 49, 50, 49, 51, 49, 52, 49, 53, 49, 54, 49, 55, 49, 56, 49, 57, 50, 48, 50, 49, 50, 50, 50, 51, 50, 52, 50, 53, 50, 54, 50, 55, 50, 56, 50, 57, 51, 48, 51, 49, 51, 50, 51, 51, 51, 52, 51, 53, 51, 54, 51, 55, 51, 56, 51, 57, 52, 48, 52, 49, 52, 50, 52, 51, 52, 52, 52, 53, 52, 54, 52, 55, 52, 56, 52, 57, 53, 48, 53, 49, 53, 50, 53, 51, 53, 52, 53, 53, 53, 54, 53, 55, 53, 56, 53, 57, 54, 48, 54, 49, 54, 50, 54, 51, 54, 52, 54, 53, 54, 54, 54, 55, 54, 56, 54, 57, 55, 48, 55, 49, 55, 50, 55, 51, 55, 52, 55, 53, 55, 54, 55, 55, 55, 56, 55, 57, 56, 48, 56, 49, 56, 50, 56, 51, 56, 52, 56, 53, 56, 54, 56, 55, 56, 56, 56, 57, 57, 48, 57, 49, 57, 50, 57, 51, 57, 52, 57, 53, 57, 54, 57, 55, 57, 56, 57, 57]⟩)) (zt 49)), zr 51 (.mv (zt 9)), zr 52 (.ixs (.const (.string ⟨#[48, 48, 48, 49, 48, 50, 48, 51, 48, 52, 48, 53, 48, 54, 48, 55, 48, 56, 48, 57, 49, 48, 49, 49, 49, 50, 49, 51, 49, 52, 49, 53, 49, 54, 49, 55, 49, 56, 49, 57, 50, 48, 50, 49, 50, 50, 50, 51, 50, 52, 50, 53, 50, 54, 50, 55, 50, 56, 50, 57, 51, 48, 51, 49, 51, 50, 51, 51, 51, 52, 51, 53, 51, 54, 51, 55, 51, 56, 51, 57, 52, 48, 52, 49, 52, 50, 52, 51, 52, 52, 52, 53, 52, 54, 52, 55, 52, 56, 52, 57, 53, 48, 53, 49, 53, 50, 53, 51, 53, 52, 53, 53, 53, 54, 53, 55, 53, 56, 53, 57, 54, 48, 54, 49, 54, 50, 54, 51, 54, 52, 54, 53, 54, 54, 54, 55, 54, 56, 54, 57, 55, 48, 55, 49, 55, 50, 55, 51, 55, 52, 55, 53, 55, 54, 55, 55, 55, 56, 55, 57, 56, 48, 56, 49, 56, 50, 56, 51, 56, 52, 56, 53, 56, 54, 56, 55, 56, 56, 56, 57, 57, 48, 57, 49, 57, 50, 57, 51, 57, 52, 57, 53, 57, 54, 57, 55, 57, 56, 57, 57]⟩)) (zt 51)), zr 53 (.ia 1 (zt 42) (zt 44)), ze (.st 1 (zt 53) (zt 50)), zr 54 (.ia 1 (zt 45) (zt 47)), ze (.st 1 (zt 54) (zt 52))])
  (.seq (.run [zr 55 (.mv (zt 0)), zr 56 (.mv (zt 4)), zr 57 (.bin .sub (zt 56) (zi 3)), zr 58 (.mv (zt 0)), zr 59 (.mv (zt 4)), zr 60 (.bin .sub (zt 59) (zi 4)), zr 61 (.mv (zt 8)), zr 62 (.bin .add (zt 61) (.const (.int .u32 1))), zr 63 (.ixs (.const (.string ⟨#[48, 48, 48, 49, 48, 50, 48, 51, 48, 52, 48, 53, 48, 54, 48, 55, 48, 56, 48, 57, 49, 48, 49, 49, 49, 50, 49, 51, 49, 52, 49, 53, 49, 54, 49, 55, 49, 56, 49, 57, 50, 48, 50, 49, 50, 50, 50, 51, 50, 52, 50, 53, 50, 54, 50, 55, 50, 56, 50, 57, 51, 48, 51, 49, 51, 50, 51, 51, 51, 52, 51, 53, 51, 54, 51, 55, 51, 56, 51, 57, 52, 48, 52, 49, 52, 50, 52, 51, 52, 52, 52, 53, 52, 54, 52, 55, 52, 56, 52, 57, 53, 48, 53, 49, 53, 50, 53, 51, 53, 52, 53, 53, 53, 54, 53, 55, 53, 56, 53, 57, 54, 48, 54, 49, 54, 50, 54, 51, 54, 52, 54, 53, 54, 54, 54, 55, 54, 56, 54, 57, 55, 48, 55, 49, 55, 50, 55, 51, 55, 52, 55, 53, 55, 54, 55, 55, 55, 56, 55, 57, 56, 48, 56, 49, 56, 50, 56, 51, 56, 52, 56, 53, 56, 54, 56, 55, 56, 56, 56, 57, 57, 48, 57, 49, 57, 50, 57, 51, 57, 52, 57, 53, 57, 54, 57, 55, 57, 56, 57, 57]⟩)) (zt 62)), zr 64 (.mv (zt 8)), zr 65 (.ixs (.const (.string ⟨#[48, 48, 48, 49, 48, 50, 48, 51, 48, 52, 48, 53, 48, 54, 48, 55, 48, 56, 48, 57, 49, 48, 49, 49, 49, 50, 49, 51, 49, 52, 49, 53, 49, 54, 49, 55, 49, 56, 49, 57, 50, 48, 50, 49, 50, 50, 50, 51, 50, 52, 50, 53, 50, 54, 50, 55, 50, 56, 50, 57, 51, 48, 51, 49, 51, 50, 51, 51, 51, 52, 51, 53, 51, 54, 51, 55, 51, 56, 51, 57, 52, 48, 52, 49, 52, 50, 52, 51, 52, 52, 52, 53, 52, 54, 52, 55, 52, 56, 52, 57, 53, 48, 53, 49, 53, 50, 53, 51, 53, 52, 53, 53, 53, 54, 53, 55, 53, 56, 53, 57, 54, 48, 54, 49, 54, 50, 54, 51, 54, 52, 54, 53, 54, 54, 54, 55, 54, 56, 54, 57, 55, 48, 55, 49, 55, 50, 55, 51, 55, 52, 55, 53, 55, 54, 55, 55, 55, 56, 55, 57, 56, 48, 56, 49, 56, 50, 56, 51, 56, 52, 56, 53, 56, 54, 56, 55, 56, 56, 56, 57, 57, 48, 57, 49, 57, 50, 57, 51, 57, 52, 57, 53, 57, 54, 57, 55, 57, 56, 57, 57]⟩)) (zt 64)), zr 66 (.ia 1 (zt 55) (zt 57)), ze (.st 1 (zt 66) (zt 63)), zr 67 (.ia 1 (zt 58) (zt 60)), ze (.st 1 (zt 67) (zt 65))])
  (.seq (.run [zr 68 (.mv (zt 0)), zr 69 (.mv (zt 4)), zr 70 (.bin .sub (zt 69) (zi 5)), zr 71 (.mv (zt 0)), zr 72 (.mv (zt 4)), zr 73 (.bin .sub (zt 72) (zi 6)), zr 74 (.mv (zt 11)), zr 75 (.bin .add (zt 74) (.const (.int .u32 1))), zr 76 (.ixs (.const (.string ⟨#[48, 48, 48, 49, 48, 50, 48, 51, 48, 52, 48, 53, 48, 54, 48, 55, 48, 56, 48, 57, 49, 48, 49, 49, 49, 50, 49, 51, 49, 52, 49, 53, 49, 54, 49, 55, 49, 56, 49, 57, 50, 48, 50, 49, 50, 50, 50, 51, 50, 52, 50, 53, 50, 54, 50, 55, 50, 56, 50, 57, 51, 48, 51, 49, 51, 50, 51, 51, 51, 52, 51, 53, 51, 54, 51, 55, 51, 56, 51, 57, 52, 48, 52, 49, 52, 50, 52, 51, 52, 52, 52, 53, 52, 54, 52, 55, 52, 56, 52, 57, 53, 48, 53, 49, 53, 50, 53, 51, 53, 52, 53, 53, 53, 54, 53, 55, 53, 56, 53, 57, 54, 48, 54, 49, 54, 50, 54, 51, 54, 52, 54, 53, 54, 54, 54, 55, 54, 56, 54, 57, 55, 48, 55, 49, 55, 50, 55, 51, 55, 52, 55, 53, 55, 54, 55, 55, 55, 56, 55, 57, 56, 48, 56, 49, 56, 50, 56, 51, 56, 52, 56, 53, 56, 54, 56, 55, 56, 56, 56, 57, 57, 48, 57, 49, 57, 50, 57, 51, 57, 52, 57, 53, 57, 54, 57, 55, 57, 56, 57, 57]⟩)) (zt 75)), zr 77 (.mv (zt 11)), zr 78 (.ixs (.const (.string ⟨#[48, 48, 48, 49, 48, 50, 48, 51, 48, 52, 48, 53, 48, 54, 48, 55, 48, 56, 48, 57, 49, 48, 49, 49, 49, 50, 49, 51, 49, 52, 49, 53, 49, 54, 49, 55, 49, 56, 49, 57, 50, 48, 50, 49, 50, 50, 50, 51, 50, 52, 50, 53, 50, 54, 50, 55, 50, 56, 50, 57, 51, 48, 51, 49, 51, 50, 51, 51, 51, 52, 51, 53, 51, 54, 51, 55, 51, 56, 51, 57, 52, 48, 52, 49, 52, 50, 52, 51, 52, 52, 52, 53, 52, 54, 52, 55, 52, 56, 52, 57, 53, 48, 53, 49, 53, 50, 53, 51, 53, 52, 53, 53, 53, 54, 53, 55, 53, 56, 53, 57, 54, 48, 54, 49, 54, 50, 54, 51, 54, 52, 54, 53, 54, 54, 54, 55, 54, 56, 54, 57, 55, 48, 55, 49, 55, 50, 55, 51, 55, 52, 55, 53, 55, 54, 55, 55, 55, 56, 55, 57, 56, 48, 56, 49, 56, 50, 56, 51, 56, 52, 56, 53, 56, 54, 56, 55, 56, 56, 56, 57, 57, 48, 57, 49, 57, 50, 57, 51, 57, 52, 57, 53, 57, 54, 57, 55, 57, 56, 57, 57]⟩)) (zt 77)), zr 79 (.ia 1 (zt 68) (zt 70)), ze (.st 1 (zt 79) (zt 76)), zr 80 (.ia 1 (zt 71) (zt 73)), ze (.st 1 (zt 80) (zt 78))])
  (.seq (.run [zr 81 (.mv (zt 0)), zr 82 (.mv (zt 4)), zr 83 (.bin .sub (zt 82) (zi 7)), zr 84 (.mv (zt 0)), zr 85 (.mv (zt 4)), zr 86 (.bin .sub (zt 85) (zi 8)), zr 87 (.mv (zt 10)), zr 88 (.bin .add (zt 87) (.const (.int .u32 1))), zr 89 (.ixs (.const (.string ⟨#[48, 48, 48, 49, 48, 50, 48, 51, 48, 52, 48, 53, 48, 54, 48, 55, 48, 56, 48, 57, 49, 48, 49, 49, 49, 50, 49, 51, 49, 52, 49, 53, 49, 54, 49, 55, 49, 56, 49, 57, 50, 48, 50, 49, 50, 50, 50, 51, 50, 52, 50, 53, 50, 54, 50, 55, 50, 56, 50, 57, 51, 48, 51, 49, 51, 50, 51, 51, 51, 52, 51, 53, 51, 54, 51, 55, 51, 56, 51, 57, 52, 48, 52, 49, 52, 50, 52, 51, 52, 52, 52, 53, 52, 54, 52, 55, 52, 56, 52, 57, 53, 48, 53, 49, 53, 50, 53, 51, 53, 52, 53, 53, 53, 54, 53, 55, 53, 56, 53, 57, 54, 48, 54, 49, 54, 50, 54, 51, 54, 52, 54, 53, 54, 54, 54, 55, 54, 56, 54, 57, 55, 48, 55, 49, 55, 50, 55, 51, 55, 52, 55, 53, 55, 54, 55, 55, 55, 56, 55, 57, 56, 48, 56, 49, 56, 50, 56, 51, 56, 52, 56, 53, 56, 54, 56, 55, 56, 56, 56, 57, 57, 48, 57, 49, 57, 50, 57, 51, 57, 52, 57, 53, 57, 54, 57, 55, 57, 56, 57, 57]⟩)) (zt 88)), zr 90 (.mv (zt 10)), zr 91 (.ixs (.const (.string ⟨#[48, 48, 48, 49, 48, 50, 48, 51, 48, 52, 48, 53, 48, 54, 48, 55, 48, 56, 48, 57, 49, 48, 49, 49, 49, 50, 49, 51, 49, 52, 49, 53, 49, 54, 49, 55, 49, 56, 49, 57, 50, 48, 50, 49, 50, 50, 50, 51, 50, 52, 50, 53, 50, 54, 50, 55, 50, 56, 50, 57, 51, 48, 51, 49, 51, 50, 51, 51, 51, 52, 51, 53, 51, 54, 51, 55, 51, 56, 51, 57, 52, 48, 52, 49, 52, 50, 52, 51, 52, 52, 52, 53, 52, 54, 52, 55, 52, 56, 52, 57, 53, 48, 53, 49, 53, 50, 53, 51, 53, 52, 53, 53, 53, 54, 53, 55, 53, 56, 53, 57, 54, 48, 54, 49, 54, 50, 54, 51, 54, 52, 54, 53, 54, 54, 54, 55, 54, 56, 54, 57, 55, 48, 55, 49, 55, 50, 55, 51, 55, 52, 55, 53, 55, 54, 55, 55, 55, 56, 55, 57, 56, 48, 56, 49, 56, 50, 56, 51, 56, 52, 56, 53, 56, 54, 56, 55, 56, 56, 56, 57, 57, 48, 57, 49, 57, 50, 57, 51, 57, 52, 57, 53, 57, 54, 57, 55, 57, 56, 57, 57]⟩)) (zt 90)), zr 92 (.ia 1 (zt 81) (zt 83)), ze (.st 1 (zt 92) (zt 89)), zr 93 (.ia 1 (zt 84) (zt 86)), ze (.st 1 (zt 93) (zt 91))])
  (.run [zr 94 (.mv (zt 4)), zr 95 (.bin .sub (zt 94) (zi 8)), za 4 (zt 95)])))))))))))
def rc68_1 : RC := (.seq (.seq (.run [zr 19 (.mv (zt 4)), zr 20 (.bin .geq (zt 19) (zi 8))])
  (.cond (zt 20)
  .skip
  (.exit 0)))
  rc68_0)
def rc68_2 : RC := (.seq (.run [zr 160 (.mv (zt 4)), zr 161 (.bin .gtr (zt 160) (zi 0))])
  (.cond (zt 161)
  (.run [zr 162 (.mv (zt 0)), zr 163 (.mv (zt 12)), zr 164 (.bin .add (.const (.int .u32 48)) (zt 163)), zr 165 (.cvi .u8 (zt 164)), zr 166 (.ia 1 (zt 162) (zi 0)), ze (.st 1 (zt 166) (zt 165))])
  .skip))
def rc68_3 : RC := (.seq (.seq (.run [zr 138 (.mv (zt 4)), zr 139 (.bin .geq (zt 138) (zi 2))])
  (.cond (zt 139)
  (.seq (.run [zr 140 (.mv (zt 12)), zr 141 (.bin .rem (zt 140) (.const (.int .u32 100))), zr 142 (.bin .mul (zt 141) (.const (.int .u32 2))), za 16 (zt 142)])
  (.seq (.run [zr 143 (.mv (zt 12)), zr 144 (.bin .quo (zt 143) (.const (.int .u32 100))), za 12 (zt 144)])
  (.seq (.run [zr 145 (.mv (zt 0)), zr 146 (.mv (zt 4)), zr 147 (.bin .sub (zt 146) (zi 1)), zr 148 (.mv (zt 0)), zr 149 (.mv (zt 4)), zr 150 (.bin .sub (zt 149) (zi 2)), zr 151 (.mv (zt 16)), zr 152 (.bin .add (zt 151) (.const (.int .u32 1))), zr 153 (.ixs (.const (.string ⟨#[48, 48, 48, 49, 48, 50, 48, 51, 48, 52, 48, 53, 48, 54, 48, 55, 48, 56, 48, 57, 49, 48, 49, 49, 49, 50, 49, 51, 49, 52, 49, 53, 49, 54, 49, 55, 49, 56, 49, 57, 50, 48, 50, 49, 50, 50, 50, 51, 50, 52, 50, 53, 50, 54, 50, 55, 50, 56, 50, 57, 51, 48, 51, 49, 51, 50, 51, 51, 51, 52, 51, 53, 51, 54, 51, 55, 51, 56, 51, 57, 52, 48, 52, 49, 52, 50, 52, 51, 52, 52, 52, 53, 52, 54, 52, 55, 52, 56, 52, 57, 53, 48, 53, 49, 53, 50, 53, 51, 53, 52, 53, 53, 53, 54, 53, 55, 53, 56, 53, 57, 54, 48, 54, 49, 54, 50, 54, 51, 54, 52, 54, 53, 54, 54, 54, 55, 54, 56, 54, 57, 55, 48, 55, 49, 55, 50, 55, 51, 55, 52, 55, 53, 55, 54, 55, 55, 55, 56, 55, 57, 56, 48, 56, 49, 56, 50, 56, 51, 56, 52, 56, 53, 56, 54, 56, 55, 56, 56, 56, 57, 57, 48, 57, 49, 57, 50, 57, 51, 57, 52, 57, 53, 57, 54, 57, 55, 57, 56, 57, 57]⟩)) (zt 152)), zr 154 (.mv (zt 16)), zr 155 (.ixs (.const (.string ⟨#[48, 48, 48, 49, 48, 50, 48, 51, 48, 52, 48, 53, 48, 54, 48, 55, 48, 56, 48, 57, 49, 48, 49, 49, 49, 50, 49, 51, 49, 52, 49, 53, 49, 54, 49, 55, 49, 56, 49, 57, 50, 48, 50, 49, 50, 50, 50, 51, 50, 52, 50, 53, 50, 54, 50, 55, 50, 56, 50, 57, 51, 48, 51, 49, 51, 50, 51, 51, 51, 52, 51, 53, 51, 54, 51, 55, 51, 56, 51, 57, 52, 48, 52, 49, 52, 50, 52, 51, 52, 52, 52, 53, 52, 54, 52, 55, 52, 56, 52, 57, 53, 48, 53, 49, 53, 50, 53, 51, 53, 52, 53, 53, 53, 54, 53, 55, 53, 56, 53, 57, 54, 48, 54, 49, 54, 50, 54, 51, 54, 52, 54, 53, 54, 54, 54, 55, 54, 56, 54, 57, 55, 48, 55, 49, 55, 50, 55, 51, 55, 52, 55, 53, 55, 54, 55, 55, 55, 56, 55, 57, 56, 48, 56, 49, 56, 50, 56, 51, 56, 52, 56, 53, 56, 54, 56, 55, 56, 56, 56, 57, 57, 48, 57, 49, 57, 50, 57, 51, 57, 52, 57, 53, 57, 54, 57, 55, 57, 56, 57, 57]⟩)) (zt 154)), zr 156 (.ia 1 (zt 145) (zt 147)), ze (.st 1 (zt 156) (zt 153)), zr 157 (.ia 1 (zt 148) (zt 150)), ze (.st 1 (zt 157) (zt 155))])
  (.run [zr 158 (.mv (zt 4)), zr 159 (.bin .sub (zt 158) (zi 2)), za 4 (zt 159)]))))
  .skip))
  rc68_2)
def rc68_4 : RC := (.seq (.run [zr 96 (.mv (zt 1)), zr 97 (.cvi .u32 (zt 96)), za 12 (zt 97)])
  (.seq (.seq (.run [zr 98 (.mv (zt 4)), zr 99 (.bin .geq (zt 98) (zi 4))])
  (.cond (zt 99)
  (.seq (.run [zr 100 (.mv (zt 12)), zr 101 (.bin .rem (zt 100) (.const (.int .u32 10000))), za 13 (zt 101)])
  (.seq (.run [zr 102 (.mv (zt 12)), zr 103 (.bin .quo (zt 102) (.const (.int .u32 10000))), za 12 (zt 103)])
  (.seq (.run [zr 104 (.mv (zt 13)), zr 105 (.bin .quo (zt 104) (.const (.int .u32 100))), zr 106 (.bin .mul (zt 105) (.const (.int .u32 2))), zr 107 (.mv (zt 13)), zr 108 (.bin .rem (zt 107) (.const (.int .u32 100))), zr 109 (.bin .mul (zt 108) (.const (.int .u32 2))), za 14 (zt 106), za 15 (zt 109)])
  (.seq (.run [zr 110 (.mv (zt 0)), zr 111 (.mv (zt 4)), zr 112 (.bin .sub (zt 111) (zi 1)), zr 113 (.mv (zt 0)), zr 114 (.mv (zt 4)), zr 115 (.bin .sub (zt 114) (zi 2)), zr 116 (.mv (zt 15)), zr 117 (.bin .add (zt 116) (.const (.int .u32 1))), zr 118 (.ixs (.const (.string ⟨#[48, 48, 48, 49, 48, 50, 48, 51, 48, 52, 48, 53, 48, 54, 48, 55, 48, 56, 48, 57, 49, 48, 49, 49, 49, 50, 49, 51, 49, 52, 49, 53, 49, 54, 49, 55, 49, 56, 49, 57, 50, 48, 50, 49, 50, 50, 50, 51, 50, 52, 50, 53, 50, 54, 50, 55, 50, 56, 50, 57, 51, 48, 51, 49, 51, 50, 51, 51, 51, 52, 51, 53, 51, 54, 51, 55, 51, 56, 51, 57, 52, 48, 52, 49, 52, 50, 52, 51, 52, 52, 52, 53, 52, 54, 52, 55, 52, 56, 52, 57, 53, 48, 53, 49, 53, 50, 53, 51, 53, 52, 53, 53, 53, 54, 53, 55, 53, 56, 53, 57, 54, 48, 54, 49, 54, 50, 54, 51, 54, 52, 54, 53, 54, 54, 54, 55, 54, 56, 54, 57, 55, 48, 55, 49, 55, 50, 55, 51, 55, 52, 55, 53, 55, 54, 55, 55, 55, 56, 55, 57, 56, 48, 56, 49, 56, 50, 56, 51, 56, 52, 56, 53, 56, 54, 56, 55, 56, 56, 56, 57, 57, 48, 57, 49, 57, 50, 57, 51, 57, 52, 57, 53, 57, 54, 57, 55, 57, 56, 57, 57]⟩)) (zt 117)), zr 119 (.mv (zt 15)), zr 120 (.ixs (.const (.string ⟨#[48, 48, 48, 49, 48, 50, 48, 51, 48, 52, 48, 53, 48, 54, 48, 55, 48, 56, 48, 57, 49, 48, 49, 49, 49, 50, 49, 51, 49, 52, 49, 53, 49, 54, 49, 55, 49, 56, 49, 57, 50, 48, 50, 49, 50, 50, 50, 51, 50, 52, 50, 53, 50, 54, 50, 55, 50, 56, 50, 57, 51, 48, 51, 49, 51, 50, 51, 51, 51, 52, 51, 53, 51, 54, 51, 55, 51, 56, 51, 57, 52, 48, 52, 49, 52, 50, 52, 51, 52, 52, 52, 53, 52, 54, 52, 55, 52, 56, 52, 57, 53, 48, 53, 49, 53, 50, 53, 51, 53, 52, 53, 53, 53, 54, 53, 55, 53, 56, 53, 57, 54, 48, 54, 49, 54, 50, 54, 51, 54, 52, 54, 53, 54, 54, 54, 55, 54, 56, 54, 57, 55, 48, 55, 49, 55, 50, 55, 51, 55, 52, 55, 53, 55, 54, 55, 55, 55, 56, 55, 57, 56, 48, 56, 49, 56, 50, 56, 51, 56, 52, 56, 53, 56, 54, 56, 55, 56, 56, 56, 57, 57, 48, 57, 49, 57, 50, 57, 51, 57, 52, 57, 53, 57, 54, 57, 55, 57, 56, 57, 57]⟩)) (zt 119)), zr 121 (.ia 1 (zt 110) (zt 112)), ze (.st 1 (zt 121) (zt 118)), zr 122 (.ia 1 (zt 113) (zt 115)), ze (.st 1 (zt 122) (zt 120))])
  (.seq (.run [zr 123 (.mv (zt 0)), zr 124 (.mv (zt 4)), zr 125 (.bin .sub (zt 124) (zi 3)), zr 126 (.mv (zt 0)), zr 127 (.mv (zt 4)), zr 128 (.bin .sub (zt 127) (zi 4)), zr 129 (.mv (zt 14)), zr 130 (.bin .add (zt 129) (.const (.int .u32 1))), zr 131 (.ixs (.const (.string ⟨#[48, 48, 48, 49, 48, 50, 48, 51, 48, 52, 48, 53, 48, 54, 48, 55, 48, 56, 48, 57, 49, 48, 49, 49, 49, 50, 49, 51, 49, 52, 49, 53, 49, 54, 49, 55, 49, 56, 49, 57, 50, 48, 50, 49, 50, 50, 50, 51, 50, 52, 50, 53, 50, 54, 50, 55, 50, 56, 50, 57, 51, 48, 51, 49, 51, 50, 51, 51, 51, 52, 51, 53, 51, 54, 51, 55, 51, 56, 51, 57, 52, 48, 52, 49, 52, 50, 52, 51, 52, 52, 52, 53, 52, 54, 52, 55, 52, 56, 52, 57, 53, 48, 53, 49, 53, 50, 53, 51, 53, 52, 53, 53, 53, 54, 53, 55, 53, 56, 53, 57, 54, 48, 54, 49, 54, 50, 54, 51, 54, 52, 54, 53, 54, 54, 54, 55, 54, 56, 54, 57, 55, 48, 55, 49, 55, 50, 55, 51, 55, 52, 55, 53, 55, 54, 55, 55, 55, 56, 55, 57, 56, 48, 56, 49, 56, 50, 56, 51, 56, 52, 56, 53, 56, 54, 56, 55, 56, 56, 56, 57, 57, 48, 57, 49, 57, 50, 57, 51, 57, 52, 57, 53, 57, 54, 57, 55, 57, 56, 57, 57]⟩)) (zt 130)), zr 132 (.mv (zt 14)), zr 133 (.ixs (.const (.string ⟨#[48, 48, 48, 49, 48, 50, 48, 51, 48, 52, 48, 53, 48, 54, 48, 55, 48, 56, 48, 57, 49, 48, 49, 49, 49, 50, 49, 51, 49, 52, 49, 53, 49, 54, 49, 55, 49, 56, 49, 57, 50, 48, 50, 49, 50, 50, 50, 51, 50, 52, 50, 53, 50, 54, 50, 55, 50, 56, 50, 57, 51, 48, 51, 49, 51, 50, 51, 51, 51, 52, 51, 53, 51, 54, 51, 55, 51, 56, 51, 57, 52, 48, 52, 49, 52, 50, 52, 51, 52, 52, 52, 53, 52, 54, 52, 55, 52, 56, 52, 57, 53, 48, 53, 49, 53, 50, 53, 51, 53, 52, 53, 53, 53, 54, 53, 55, 53, 56, 53, 57, 54, 48, 54, 49, 54, 50, 54, 51, 54, 52, 54, 53, 54, 54, 54, 55, 54, 56, 54, 57, 55, 48, 55, 49, 55, 50, 55, 51, 55, 52, 55, 53, 55, 54, 55, 55, 55, 56, 55, 57, 56, 48, 56, 49, 56, 50, 56, 51, 56, 52, 56, 53, 56, 54, 56, 55, 56, 56, 56, 57, 57, 48, 57, 49, 57, 50, 57, 51, 57, 52, 57, 53, 57, 54, 57, 55, 57, 56, 57, 57]⟩)) (zt 132)), zr 134 (.ia 1 (zt 123) (zt 125)), ze (.st 1 (zt 134) (zt 131)), zr 135 (.ia 1 (zt 126) (zt 128)), ze (.st 1 (zt 135) (zt 133))])
  (.run [zr 136 (.mv (zt 4)), zr 137 (.bin .sub (zt 136) (zi 4)), za 4 (zt 137)]))))))
  .skip))
  rc68_3))
def rc68 : RC := (.seq (.run [zr 17 (.mv (zt 0)), zr 18 (.lenl (zt 17)), za 4 (zt 18)])
  (.seq (.block 0 (.loop rc68_1))
  rc68_4))
def ce68 : List (Nat × List Nat × List Nat) := [(7, [0, 1, 2, 3, 4, 5, 6, 7, 8, 9, 10, 11, 12, 13, 14], [0, 0, 2, 0, 0, 16, 0, 64, 192, 0, 512, 455, 2503, 8191, 16383]), (8, [0, 1, 2, 3, 4, 5, 6, 7, 8, 9, 10, 11, 12, 13, 14], [0, 0, 2, 0, 0, 16, 0, 64, 192, 0, 512, 455, 2503, 8191, 16383]), (9, [0, 1, 2, 3, 4, 5, 6, 7, 8, 9, 10, 11, 12, 13, 14], [0, 0, 2, 0, 0, 16, 0, 64, 192, 0, 512, 455, 2503, 8191, 16383]), (10, [0, 1, 2, 3, 4, 5, 6, 7, 8, 9, 10, 11, 12, 13, 14], [0, 0, 2, 0, 0, 16, 0, 64, 192, 0, 512, 455, 2503, 8191, 16383]), (17, [0, 1, 2, 3, 4, 5, 6, 7, 8, 9, 10, 11, 12, 13, 14], [0, 0, 2, 0, 0, 16, 0, 64, 192, 0, 512, 455, 2503, 8191, 16383]), (18, [0, 1, 2, 3, 4, 5, 6, 7, 8, 9, 10, 11, 12, 13, 14], [0, 0, 2, 0, 0, 16, 0, 64, 192, 0, 512, 455, 2503, 8191, 16383]), (23, [0, 1, 2, 3, 4, 5, 6, 7, 8, 9, 10, 11, 12, 13, 14], [0, 0, 2, 0, 0, 16, 0, 64, 192, 0, 512, 455, 2503, 8191, 16383])]
def ro68 : List RO := []
theorem ok68 : okFn Tryz.prog 68 167 ce68 = some (rc68, ro68) := by kernel_rfl
def rc69_0 : RC := (.block 1 (.seq (.run [zr 47 (.mv (zt 13)), zr 48 (.bin .sub (zt 47) (zi 1)), za 13 (zt 48)])
  (.seq (.run [zr 49 (.mv (zt 13)), zr 50 (.mv (zt 1)), zr 51 (.mv (zt 16)), zr 52 (.bin .and (zt 50) (zt 51)), zr 53 (.ixs (.const (.string ⟨#[48, 49, 50, 51, 52, 53, 54, 55, 56, 57, 97, 98, 99, 100, 101, 102, 103, 104, 105, 106, 107, 108, 109, 110, 111, 112, 113, 114, 115, 116, 117, 118, 119, 120, 121, 122]⟩)) (zt 52)), zr 54 (.iaa 65 1 (zt 12) (zt 49)), ze (.st 1 (zt 54) (zt 53))])
  (.run [zr 55 (.mv (zt 1)), zr 56 (.mv (zt 14)), zr 57 (.bin .shr (zt 55) (zt 56)), za 1 (zt 57)]))))
def rc69_1 : RC := (.seq (.seq (.run [zr 44 (.mv (zt 1)), zr 45 (.mv (zt 15)), zr 46 (.bin .geq (zt 44) (zt 45))])
  (.cond (zt 46)
  .skip
  (.exit 0)))
  rc69_0)
def rc69_2 : RC := (.seq (.run [zr 58 (.mv (zt 13)), zr 59 (.bin .sub (zt 58) (zi 1)), za 13 (zt 59)])
  (.run [zr 60 (.mv (zt 13)), zr 61 (.mv (zt 1)), zr 62 (.ixs (.const (.string ⟨#[48, 49, 50, 51, 52, 53, 54, 55, 56, 57, 97, 98, 99, 100, 101, 102, 103, 104, 105, 106, 107, 108, 109, 110, 111, 112, 113, 114, 115, 116, 117, 118, 119, 120, 121, 122]⟩)) (zt 61)), zr 63 (.iaa 65 1 (zt 12) (zt 60)), ze (.st 1 (zt 63) (zt 62))]))
def rc69_3 : RC := (.block 3 (.seq (.run [zr 69 (.mv (zt 13)), zr 70 (.bin .sub (zt 69) (zi 1)), za 13 (zt 70)])
  (.seq (.run [zr 71 (.mv (zt 1)), zr 72 (.mv (zt 17)), zr 73 (.bin .quo (zt 71) (zt 72)), za 18 (zt 73)])
  (.seq (.run [zr 74 (.mv (zt 13)), zr 75 (.mv (zt 1)), zr 76 (.mv (zt 18)), zr 77 (.mv (zt 17)), zr 78 (.bin .mul (zt 76) (zt 77)), zr 79 (.bin .sub (zt 75) (zt 78)), zr 80 (.ixs (.const (.string ⟨#[48, 49, 50, 51, 52, 53, 54, 55, 56, 57, 97, 98, 99, 100, 101, 102, 103, 104, 105, 106, 107, 108, 109, 110, 111, 112, 113, 114, 115, 116, 117, 118, 119, 120, 121, 122]⟩)) (zt 79)), zr 81 (.iaa 65 1 (zt 12) (zt 74)), ze (.st 1 (zt 81) (zt 80))])
  (.run [zr 82 (.mv (zt 18)), za 1 (zt 82)])))))
def rc69_4 : RC := (.seq (.seq (.run [zr 66 (.mv (zt 1)), zr 67 (.mv (zt 17)), zr 68 (.bin .geq (zt 66) (zt 67))])
  (.cond (zt 68)
  .skip
  (.exit 2)))
  rc69_3)
def rc69_5 : RC := (.seq (.run [zr 83 (.mv (zt 13)), zr 84 (.bin .sub (zt 83) (zi 1)), za 13 (zt 84)])
  (.run [zr 85 (.mv (zt 13)), zr 86 (.mv (zt 1)), zr 87 (.ixs (.const (.string ⟨#[48, 49, 50, 51, 52, 53, 54, 55, 56, 57, 97, 98, 99, 100, 101, 102, 103, 104, 105, 106, 107, 108, 109, 110, 111, 112, 113, 114, 115, 116, 117, 118, 119, 120, 121, 122]⟩)) (zt 86)), zr 88 (.iaa 65 1 (zt 12) (zt 85)), ze (.st 1 (zt 88) (zt 87))]))
def rc69_6 : RC := (.seq (.run [zr 99 (.mv (zt 13)), zr 100 (.sla 65 1 (zt 12) (some (zt 99)) none), zr 101 (.b2s (zt 100)), za 11 (zt 101)])
  .ret)
def rc69_7 : RC := (.seq (.seq (.run [zr 94 (.mv (zt 4))])
  (.cond (zt 94)
  (.seq (.run [zr 95 (.mv (zt 0)), zr 96 (.mv (zt 13)), zr 97 (.sla 65 1 (zt 12) (some (zt 96)) none), zf 98 (.app 5 1 1 (zt 95) (zt 97)), za 10 (zt 98)])
  .ret)
  .skip))
  rc69_6)
def rc69_8 : RC := (.seq (.seq (.run [zr 89 (.mv (zt 3))])
  (.cond (zt 89)
  (.seq (.run [zr 90 (.mv (zt 13)), zr 91 (.bin .sub (zt 90) (zi 1)), za 13 (zt 91)])
  (.run [zr 92 (.mv (zt 13)), zr 93 (.iaa 65 1 (zt 12) (zt 92)), ze (.st 1 (zt 93) (.const (.int .u8 45)))]))
  .skip))
  rc69_7)
def rc69_9 : RC := (.seq (.seq (.run [zr 33 (.mv (zt 2)), zc 34 81 [(zt 33)]])
  (.cond (zt 34)
  (.seq (.run [zr 35 (.mv (zt 2)), zr 36 (.cvi .u64 (zt 35)), zc 37 82 [(zt 36)], zr 38 (.cvi .u64 (zt 37)), za 14 (zt 38)])
  (.seq (.run [zr 39 (.mv (zt 2)), zr 40 (.cvi .u64 (zt 39)), za 15 (zt 40)])
  (.seq (.run [zr 41 (.mv (zt 2)), zr 42 (.cvi .u64 (zt 41)), zr 43 (.bin .sub (zt 42) (.const (.int .u64 1))), za 16 (zt 43)])
  (.seq (.block 0 (.loop rc69_1))
  rc69_2))))
  (.seq (.run [zr 64 (.mv (zt 2)), zr 65 (.cvi .u64 (zt 64)), za 17 (zt 65)])
  (.seq (.block 2 (.loop rc69_4))
  rc69_5))))
  rc69_8)
def rc69_10 : RC := (.seq (.run [zf 12 (.al [(.int .u8 0), (.int .u8 0), (.int .u8 0), (.int .u8 0), (.int .u8 0), (.int .u8 0), (.int .u8 0), (.int .u8 0), (.int .u8 0), (.int .u8 0), (.int .u8 0), (.int .u8 0), (.int .u8 0), (.int .u8 0), (.int .u8 0), (.int .u8 0), (.int .u8 0), (.int .u8 0), (.int .u8 0), (.int .u8 0), (.int .u8 0), (.int .u8 0), (.int .u8 0), (.int .u8 0), (.int .u8 0), (.int .u8 0), (.int .u8 0), (.int .u8 0), (.int .u8 0), (.int .u8 0), (.int .u8 0), (.int .u8 0), (.int .u8 0), (.int .u8 0), (.int .u8 0), (.int .u8 0), (.int .u8 0), (.int .u8 0), (.int .u8 0), (.int .u8 0), (.int .u8 0), (.int .u8 0), (.int .u8 0), (.int .u8 0), (.int .u8 0), (.int .u8 0), (.int .u8 0), (.int .u8 0), (.int .u8 0), (.int .u8 0), (.int .u8 0), (.int .u8 0), (.int .u8 0), (.int .u8 0), (.int .u8 0), (.int .u8 0), (.int .u8 0), (.int .u8 0), (.int .u8 0), (.int .u8 0), (.int .u8 0), (.int .u8 0), (.int .u8 0), (.int .u8 0), (.int .u8 0)] 141)])
  (.seq (.run [za 13 (zi 65)])
  (.seq (.seq (.run [zr 30 (.mv (zt 3))])
  (.cond (zt 30)
  (.run [zr 31 (.mv (zt 1)), zr 32 (.neg (zt 31)), za 1 (zt 32)])
  .skip))
  rc69_9)))
def rc69 : RC := (.seq (.run [za 10 (.const (.slice none 0 0)), za 11 (.const (.string ⟨#[]⟩))])
  (.seq (.seq (.run [zr 19 (.mv (zt 2)), zr 20 (.bin .lss (zt 19) (zi 2)), zr 21 (.mv (zt 20)), zg 22 21 false (.mv (zt 2)), zg 23 21 false (.bin .eql (zt 22) (zi 10)), zr 24 (.pick (zt 21) (.const (.bool true)) (zt 23)), zr 25 (.mv (zt 24)), zg 26 25 false (.mv (zt 2)), zg 27 25 false (.bin .gtr (zt 26) (zi 36)), zr 28 (.pick (zt 25) (.const (.bool true)) (zt 27))])
  (.cond (zt 28)
  (.run [zr 29 (.mki 9 (.const (.string ⟨#[115, 116, 114, 99, 111, 110, 118, 58, 32, 105, 108, 108, 101, 103, 97, 108, 32, 65, 112, 112, 101, 110, 100, 73, 110, 116, 47, 70, 111, 114, 109, 97, 116, 73, 110, 116, 32, 98, 97, 115, 101]⟩))), ⟨none, none, .bad, []⟩])
  .skip))
  rc69_10))
def ce69 : List (Nat × List Nat × List Nat) := []
def ro69 : List RO := [(.mv (zt 10)), (.mv (zt 11))]
theorem ok69 : okFn Tryz.prog 69 102 ce69 = some (rc69, ro69) := by kernel_rfl
def rc70_0 : RC := (.seq (.block 1 (.seq (.run [zr 10 (.ia 1 (zt 6) (zt 8)), zr 11 (.ld (zt 10)), za 5 (zt 11)])
  (.run [zr 12 (.mv (zt 3)), zr 13 (.mv (zt 5)), zr 14 (.bin .add (zt 12) (zt 13)), za 3 (zt 14)])))
  (.run [zr 15 (.bin .add (zt 8) (zi 1)), zr 8 (.mv (zt 15))]))
def rc70_1 : RC := (.seq (.run [zr 9 (.bin .lss (zt 8) (zt 7))])
  (.seq (.cond (zt 9)
  .skip
  (.exit 0))
  rc70_0))
def rc70_2 : RC := (.seq (.run [zr 16 (.mv (zt 3)), za 2 (zt 16)])
  .ret)
def rc70 : RC := (.seq (.run [za 2 (.const (.int .u8 0))])
  (.seq (.run [za 3 (.const (.int .u8 0))])
  (.seq (.seq (.run [zr 6 (.mv (zt 0)), zr 7 (.lenl (zt 6)), zr 8 (.mv (zi 0))])
  (.block 0 (.loop rc70_1)))
  rc70_2)))
def ce70 : List (Nat × List Nat × List Nat) := []
def ro70 : List RO := [(.mv (zt 2))]
theorem ok70 : okFn Tryz.prog 70 17 ce70 = some (rc70, ro70) := by kernel_rfl
def rc71_0 : RC := (.seq (.block 1 (.seq (.run [zr 10 (.ia 1 (zt 6) (zt 8)), zr 11 (.ld (zt 10)), za 5 (zt 11)])
  (.run [zr 12 (.mv (zt 3)), zr 13 (.mv (zt 5)), zr 14 (.cvi .u16 (zt 13)), zr 15 (.bin .shl (zt 14) (.const (.int .u64 8))), zr 16 (.bin .xor (zt 12) (zt 15)), zc 17 83 [(zt 16)], za 3 (zt 17)])))
  (.run [zr 18 (.bin .add (zt 8) (zi 1)), zr 8 (.mv (zt 18))]))
def rc71_1 : RC := (.seq (.run [zr 9 (.bin .lss (zt 8) (zt 7))])
  (.seq (.cond (zt 9)
  .skip
  (.exit 0))
  rc71_0))
def rc71_2 : RC := (.seq (.run [zr 19 (.mv (zt 3)), za 2 (zt 19)])
  .ret)
def rc71 : RC := (.seq (.run [za 2 (.const (.int .u16 0))])
  (.seq (.run [za 3 (.const (.int .u16 0))])
  (.seq (.seq (.run [zr 6 (.mv (zt 0)), zr 7 (.lenl (zt 6)), zr 8 (.mv (zi 0))])
  (.block 0 (.loop rc71_1)))
  rc71_2)))
def ce71 : List (Nat × List Nat × List Nat) := []
def ro71 : List RO := [(.mv (zt 2))]
theorem ok71 : okFn Tryz.prog 71 20 ce71 = some (rc71, ro71) := by kernel_rfl
def rc72 : RC := (.run [zr 4 (.mv (zt 0)), zr 5 (.mv (zt 0)), zr 6 (.mv (zt 1)), zr 7 (.nck (zt 4)), zr 8 (.fa 9 (zt 7)), ze (.st 1 (zt 8) (.const (.bool true))), zr 9 (.nck (zt 5)), zr 10 (.fa 10 (zt 9)), ze (.st 1 (zt 10) (zt 6))])
def ce72 : List (Nat × List Nat × List Nat) := []
def ro72 : List RO := []
theorem ok72 : okFn Tryz.prog 72 11 ce72 = some (rc72, ro72) := by kernel_rfl
def rc73_0 : RC := (.seq (.run [zr 75 (.ldn 4 (zt 14)), ze (.st 4 (zt 2) (zt 75)), za 3 (.const (.bool true))])
  .ret)
def rc73_1 : RC := (.seq (.run [zr 34 (.mv (zt 7)), zr 35 (.ia 1 (zt 34) (zi 0)), zr 36 (.ld (zt 35)), zc 37 86 [(zt 36), (zi 10), (zi 8192)], zr 33 (.mv (zt 37)), zr 38 (.ext 0 (zt 33)), zr 39 (.ext 1 (zt 33)), za 8 (zt 38), za 9 (zt 39)])
  (.seq (.run [zr 41 (.mv (zt 7)), zr 42 (.ia 1 (zt 41) (zi 1)), zr 43 (.ld (zt 42)), zc 44 86 [(zt 43), (zi 8), (zi 4294967295)], zr 40 (.mv (zt 44)), zr 45 (.ext 0 (zt 40)), zr 46 (.ext 1 (zt 40)), za 10 (zt 45), za 11 (zt 46)])
  (.seq (.run [zr 48 (.mv (zt 7)), zr 49 (.ia 1 (zt 48) (zi 2)), zr 50 (.ld (zt 49)), zc 51 86 [(zt 50), (zi 8), (zi 65535)], zr 47 (.mv (zt 51)), zr 52 (.ext 0 (zt 47)), zr 53 (.ext 1 (zt 47)), za 12 (zt 52), za 13 (zt 53)])
  (.seq (.run [zr 54 (.mv (zt 4)), zr 55 (.mv (zt 8)), zr 56 (.mv (zt 10)), zr 57 (.mv (zt 12)), zr 58 (.bld [(.string ⟨#[]⟩), (.int .i64 0), (.int .i64 0), (.int .i64 0)] [(0, 1, (zt 54)), (1, 1, (zt 55)), (2, 1, (zt 56)), (3, 1, (zt 57))]), zf 14 (.al [(.string ⟨#[]⟩), (.int .i64 0), (.int .i64 0), (.int .i64 0)] 102), ze (.st 4 (zt 14) (zt 58))])
  (.seq (.seq (.run [zr 59 (.mv (zt 9)), zr 60 (.not (zt 59)), zr 61 (.mv (zt 60)), zg 62 61 false (.mv (zt 11)), zg 63 61 false (.not (zt 62)), zr 64 (.pick (zt 61) (.const (.bool true)) (zt 63)), zr 65 (.mv (zt 64)), zg 66 65 false (.mv (zt 13)), zg 67 65 false (.not (zt 66)), zr 68 (.pick (zt 65) (.const (.bool true)) (zt 67)), zr 69 (.mv (zt 68)), zg 70 69 false (.ldn 4 (zt 14)), ⟨(some 71), (some (69, false)), (.c (.fn 87 [(zt 70)])), []⟩, zg 72 69 false (.not (zt 71)), zr 73 (.pick (zt 69) (.const (.bool true)) (zt 72))])
  (.cond (zt 73)
  (.seq (.run [zr 74 (.bld [(.string ⟨#[]⟩), (.int .i64 0), (.int .i64 0), (.int .i64 0)] []), ze (.st 4 (zt 2) (zt 74)), za 3 (.const (.bool false))])
  .ret)
  .skip))
  rc73_0)))))
def rc73_2 : RC := (.seq (.run [zr 20 (.mv (zt 0)), zr 21 (.b2s (zt 20)), zc 22 84 [(zt 21), (.const (.string ⟨#[0]⟩))], zr 19 (.mv (zt 22)), zr 23 (.ext 0 (zt 19)), zr 24 (.ext 1 (zt 19)), zr 25 (.ext 2 (zt 19)), za 4 (zt 23), za 5 (zt 24), za 6 (zt 25)])
  (.seq (.run [zr 26 (.mv (zt 5)), zc 27 85 [(zt 26), (.const (.string ⟨#[0]⟩))], zc 28 62 [(zt 27), (.const (.string ⟨#[32]⟩))], za 7 (zt 28)])
  (.seq (.seq (.run [zr 29 (.mv (zt 7)), zr 30 (.lenl (zt 29)), zr 31 (.bin .neq (zt 30) (zi 3))])
  (.cond (zt 31)
  (.seq (.run [zr 32 (.bld [(.string ⟨#[]⟩), (.int .i64 0), (.int .i64 0), (.int .i64 0)] []), ze (.st 4 (zt 2) (zt 32)), za 3 (.const (.bool false))])
  .ret)
  .skip))
  rc73_1)))
def rc73 : RC := (.seq (.run [zf 2 (.al [(.string ⟨#[]⟩), (.int .i64 0), (.int .i64 0), (.int .i64 0)] 102), za 3 (.const (.bool false))])
  (.seq (.seq (.run [zr 15 (.mv (zt 0)), zr 16 (.lenl (zt 15)), zr 17 (.bin .neq (zt 16) (zi 128))])
  (.cond (zt 17)
  (.seq (.run [zr 18 (.bld [(.string ⟨#[]⟩), (.int .i64 0), (.int .i64 0), (.int .i64 0)] []), ze (.st 4 (zt 2) (zt 18)), za 3 (.const (.bool false))])
  .ret)
  .skip))
  rc73_2))
def ce73 : List (Nat × List Nat × List Nat) := []
def ro73 : List RO := [(.ldn 4 (zt 2)), (.mv (zt 3))]
theorem ok73 : okFn Tryz.prog 73 76 ce73 = some (rc73, ro73) := by kernel_rfl
def rc74 : RC := (.seq (.run [za 2 (.const (.bool false))])
  (.seq (.run [zr 3 (.mv (zt 0)), zr 4 (.lenl (zt 3)), zr 5 (.bin .eql (zt 4) (zi 128)), zr 6 (.mv (zt 5)), zg 7 6 true (.mv (zt 0)), zg 8 6 true (.ia 1 (zt 7) (zi 0)), zg 9 6 true (.ld (zt 8)), zg 10 6 true (.bin .eql (zt 9) (.const (.int .u8 0))), zr 11 (.pick (zt 6) (zt 10) (.const (.bool false))), za 2 (zt 11)])
  .ret))
def ce74 : List (Nat × List Nat × List Nat) := []
def ro74 : List RO := [(.mv (zt 2))]
theorem ok74 : okFn Tryz.prog 74 12 ce74 = some (rc74, ro74) := by kernel_rfl
def rc75_0 : RC := (.seq (.run [zr 14 (.mv (zt 5)), za 4 (zt 14)])
  .ret)
def rc75_1 : RC := (.seq (.seq (.run [zr 11 (.mv (zt 1))])
  (.cond (zt 11)
  (.run [zr 12 (.mv (zt 5)), zr 13 (.bin .add (zt 12) (zi 1)), za 5 (zt 13)])
  .skip))
  rc75_0)
def rc75 : RC := (.seq (.run [za 4 (zi 0)])
  (.seq (.run [za 5 (zi 0)])
  (.seq (.seq (.run [zr 6 (.mv (zt 0))])
  (.block 0 (.seq (.run [zr 8 (.bin .eql (zt 6) (.const (.int .u8 1))), za 7 (zt 8)])
  (.cond (zt 7)
  (.run [za 5 (zi 132)])
  (.seq (.run [zr 10 (.bin .eql (zt 6) (.const (.int .u8 2))), za 9 (zt 10)])
  (.cond (zt 9)
  (.run [za 5 (zi 1028)])
  (.seq (.run [za 4 (zi 0)])
  .ret)))))))
  rc75_1)))
def ce75 : List (Nat × List Nat × List Nat) := []
def ro75 : List RO := [(.mv (zt 4))]
theorem ok75 : okFn Tryz.prog 75 15 ce75 = some (rc75, ro75) := by kernel_rfl
def rc76_0 : RC := (.seq (.run [zr 42 (.mv (zt 9)), zr 43 (.mv (zt 10)), zr 44 (.mv (zt 0)), zr 45 (.mv (zt 11)), zr 46 (.mv (zt 2)), zr 47 (.bin .add (zt 45) (zt 46)), zr 48 (.sls (zt 44) none (some (zt 47))), zr 49 (.ia 1 (zt 42) (zt 43)), ze (.st 1 (zt 49) (zt 48))])
  (.seq (.run [zr 50 (.mv (zt 0)), zr 51 (.mv (zt 11)), zr 52 (.mv (zt 1)), zr 53 (.lens (zt 52)), zr 54 (.bin .add (zt 51) (zt 53)), zr 55 (.sls (zt 50) (some (zt 54)) none), za 0 (zt 55)])
  (.run [zr 56 (.mv (zt 10)), zr 57 (.bin .add (zt 56) (zi 1)), za 10 (zt 57)])))
def rc76_1 : RC := (.block 1 (.seq (.run [zr 37 (.mv (zt 0)), zr 38 (.mv (zt 1)), zc 39 90 [(zt 37), (zt 38)], za 11 (zt 39)])
  (.seq (.seq (.run [zr 40 (.mv (zt 11)), zr 41 (.bin .lss (zt 40) (zi 0))])
  (.cond (zt 41)
  (.exit 0)
  .skip))
  rc76_0)))
def rc76_2 : RC := (.seq (.seq (.run [zr 34 (.mv (zt 10)), zr 35 (.mv (zt 3)), zr 36 (.bin .lss (zt 34) (zt 35))])
  (.cond (zt 36)
  .skip
  (.exit 0)))
  rc76_1)
def rc76_3 : RC := (.seq (.run [zr 58 (.mv (zt 9)), zr 59 (.mv (zt 10)), zr 60 (.mv (zt 0)), zr 61 (.ia 1 (zt 58) (zt 59)), ze (.st 1 (zt 61) (zt 60))])
  (.seq (.run [zr 62 (.mv (zt 9)), zr 63 (.mv (zt 10)), zr 64 (.bin .add (zt 63) (zi 1)), zr 65 (.sl 1 (zt 62) none (some (zt 64))), za 8 (zt 65)])
  .ret))
def rc76_4 : RC := (.seq (.run [zr 25 (.mv (zt 3)), zr 26 (.mv (zt 0)), zr 27 (.lens (zt 26)), zr 28 (.bin .add (zt 27) (zi 1)), zr 29 (.mn (zt 25) (zt 28)), za 3 (zt 29)])
  (.seq (.run [zr 30 (.mv (zt 3)), zf 31 (.mks 9 16 (.string ⟨#[]⟩) (zt 30) (zt 30)), za 9 (zt 31)])
  (.seq (.run [zr 32 (.mv (zt 3)), zr 33 (.bin .sub (zt 32) (zi 1)), za 3 (zt 33)])
  (.seq (.run [za 10 (zi 0)])
  (.seq (.block 0 (.loop rc76_2))
  rc76_3)))))
def rc76_5 : RC := (.seq (.seq (.run [zr 19 (.mv (zt 3)), zr 20 (.bin .lss (zt 19) (zi 0))])
  (.cond (zt 20)
  (.run [zr 21 (.mv (zt 0)), zr 22 (.mv (zt 1)), zc 23 89 [(zt 21), (zt 22)], zr 24 (.bin .add (zt 23) (zi 1)), za 3 (zt 24)])
  .skip))
  rc76_4)
def rc76_6 : RC := (.seq (.seq (.run [zr 14 (.mv (zt 1)), zr 15 (.bin .eql (zt 14) (.const (.string ⟨#[]⟩)))])
  (.cond (zt 15)
  (.seq (.run [zr 16 (.mv (zt 0)), zr 17 (.mv (zt 3)), zc 18 88 [(zt 16), (zt 17)], za 8 (zt 18)])
  .ret)
  .skip))
  rc76_5)
def rc76 : RC := (.seq (.run [za 8 (.const (.slice none 0 0))])
  (.seq (.seq (.run [zr 12 (.mv (zt 3)), zr 13 (.bin .eql (zt 12) (zi 0))])
  (.cond (zt 13)
  (.seq (.run [za 8 (.const (.slice none 0 0))])
  .ret)
  .skip))
  rc76_6))
def ce76 : List (Nat × List Nat × List Nat) := []
def ro76 : List RO := [(.mv (zt 8))]
theorem ok76 : okFn Tryz.prog 76 66 ce76 = some (rc76, ro76) := by kernel_rfl
def rc77_0 : RC := (.seq (.run [zr 25 (.mv (zt 8)), za 6 (zt 25), za 7 (.const .nilIface)])
  .ret)
def rc77 : RC := (.seq (.run [za 6 (.const (.int .u64 0)), za 7 (.const .nilIface)])
  (.seq (.run [zr 11 (.mv (zt 0)), zr 12 (.mv (zt 1)), zr 13 (.mv (zt 2)), zc 14 91 [(zt 11), (zt 12), (zt 13)], zr 10 (.mv (zt 14)), zr 15 (.ext 0 (zt 10)), zr 16 (.ext 1 (zt 10)), za 8 (zt 15), za 9 (zt 16)])
  (.seq (.seq (.run [zr 17 (.mv (zt 9)), zr 18 (.eq true (.iface []) (zt 17) (.const .nilIface))])
  (.cond (zt 18)
  (.seq (.run [zr 19 (.mv (zt 8)), zr 20 (.mv (zt 0)), zr 21 (.mv (zt 1)), zr 22 (.mv (zt 2)), zr 23 (.mv (zt 9)), zc 24 92 [(.const (.string ⟨#[80, 97, 114, 115, 101, 85, 105, 110, 116]⟩)), (zt 20), (zt 21), (zt 22), (zt 23)], za 6 (zt 19), za 7 (zt 24)])
  .ret)
  .skip))
  rc77_0)))
def ce77 : List (Nat × List Nat × List Nat) := []
def ro77 : List RO := [(.mv (zt 6)), (.mv (zt 7))]
theorem ok77 : okFn Tryz.prog 77 26 ce77 = some (rc77, ro77) := by kernel_rfl
def rc78 : RC := (.seq (.run [za 2 (zi 0)])
  (.seq (.run [zr 3 (.mv (zt 0)), zr 4 (.bin .mul (zt 3) (zi 78913)), zr 5 (.bin .shr (zt 4) (.const (.int .u64 18))), za 2 (zt 5)])
  .ret))
def ce78 : List (Nat × List Nat × List Nat) := []
def ro78 : List RO := [(.mv (zt 2))]
theorem ok78 : okFn Tryz.prog 78 6 ce78 = some (rc78, ro78) := by kernel_rfl
def rc79_0 : RC := (.seq (.run [zr 19 (.mv (zt 2)), zr 20 (.mv (zt 0)), zr 21 (.cvi .u8 (zt 20)), zr 22 (.ixs (.const (.string ⟨#[0, 1, 2, 2, 3, 3, 3, 3, 4, 4, 4, 4, 4, 4, 4, 4, 5, 5, 5, 5, 5, 5, 5, 5, 5, 5, 5, 5, 5, 5, 5, 5, 6, 6, 6, 6, 6, 6, 6, 6, 6, 6, 6, 6, 6, 6, 6, 6, 6, 6, 6, 6, 6, 6, 6, 6, 6, 6, 6, 6, 6, 6, 6, 6, 7, 7, 7, 7, 7, 7, 7, 7, 7, 7, 7, 7, 7, 7, 7, 7, 7, 7, 7, 7, 7, 7, 7, 7, 7, 7, 7, 7, 7, 7, 7, 7, 7, 7, 7, 7, 7, 7, 7, 7, 7, 7, 7, 7, 7, 7, 7, 7, 7, 7, 7, 7, 7, 7, 7, 7, 7, 7, 7, 7, 7, 7, 7, 7, 8, 8, 8, 8, 8, 8, 8, 8, 8, 8, 8, 8, 8, 8, 8, 8, 8, 8, 8, 8, 8, 8, 8, 8, 8, 8, 8, 8, 8, 8, 8, 8, 8, 8, 8, 8, 8, 8, 8, 8, 8, 8, 8, 8, 8, 8, 8, 8, 8, 8, 8, 8, 8, 8, 8, 8, 8, 8, 8, 8, 8, 8, 8, 8, 8, 8, 8, 8, 8, 8, 8, 8, 8, 8, 8, 8, 8, 8, 8, 8, 8, 8, 8, 8, 8, 8, 8, 8, 8, 8, 8, 8, 8, 8, 8, 8, 8, 8, 8, 8, 8, 8, 8, 8, 8, 8, 8, 8, 8, 8, 8, 8, 8, 8, 8, 8, 8, 8, 8, 8, 8, 8, 8, 8, 8, 8, 8, 8]⟩)) (zt 21)), zr 23 (.cvi .i64 (zt 22)), zr 24 (.bin .add (zt 19) (zt 23)), za 2 (zt 24)])
  .ret)
def rc79_1 : RC := (.seq (.seq (.run [zr 13 (.mv (zt 0)), zr 14 (.bin .geq (zt 13) (.const (.int .u64 256)))])
  (.cond (zt 14)
  (.seq (.run [zr 15 (.mv (zt 0)), zr 16 (.bin .shr (zt 15) (.const (.int .u64 8))), za 0 (zt 16)])
  (.run [zr 17 (.mv (zt 2)), zr 18 (.bin .add (zt 17) (zi 8)), za 2 (zt 18)]))
  .skip))
  rc79_0)
def rc79_2 : RC := (.seq (.seq (.run [zr 7 (.mv (zt 0)), zr 8 (.bin .geq (zt 7) (.const (.int .u64 65536)))])
  (.cond (zt 8)
  (.seq (.run [zr 9 (.mv (zt 0)), zr 10 (.bin .shr (zt 9) (.const (.int .u64 16))), za 0 (zt 10)])
  (.run [zr 11 (.mv (zt 2)), zr 12 (.bin .add (zt 11) (zi 16)), za 2 (zt 12)]))
  .skip))
  rc79_1)
def rc79 : RC := (.seq (.run [za 2 (zi 0)])
  (.seq (.seq (.run [zr 3 (.mv (zt 0)), zr 4 (.bin .geq (zt 3) (.const (.int .u64 4294967296)))])
  (.cond (zt 4)
  (.seq (.run [zr 5 (.mv (zt 0)), zr 6 (.bin .shr (zt 5) (.const (.int .u64 32))), za 0 (zt 6)])
  (.run [za 2 (zi 32)]))
  .skip))
  rc79_2))
def ce79 : List (Nat × List Nat × List Nat) := []
def ro79 : List RO := [(.mv (zt 2))]
theorem ok79 : okFn Tryz.prog 79 25 ce79 = some (rc79, ro79) := by kernel_rfl
def rc80_0 : RC := (.seq (.run [za 2 (zi 0)])
  .ret)
def rc80 : RC := (.seq (.run [za 2 (zi 0)])
  (.seq (.seq (.run [zr 3 (.mv (zt 0))])
  (.cond (zt 3)
  (.seq (.run [za 2 (zi 1)])
  .ret)
  .skip))
  rc80_0))
def ce80 : List (Nat × List Nat × List Nat) := []
def ro80 : List RO := [(.mv (zt 2))]
theorem ok80 : okFn Tryz.prog 80 4 ce80 = some (rc80, ro80) := by kernel_rfl
def rc81 : RC := (.seq (.run [za 2 (.const (.bool false))])
  (.seq (.run [zr 3 (.mv (zt 0)), zr 4 (.mv (zt 0)), zr 5 (.bin .sub (zt 4) (zi 1)), zr 6 (.bin .and (zt 3) (zt 5)), zr 7 (.bin .eql (zt 6) (zi 0)), za 2 (zt 7)])
  .ret))
def ce81 : List (Nat × List Nat × List Nat) := []
def ro81 : List RO := [(.mv (zt 2))]
theorem ok81 : okFn Tryz.prog 81 8 ce81 = some (rc81, ro81) := by kernel_rfl
def rc82_0 : RC := (.seq (.run [zr 6 (.mv (zt 0)), zc 7 94 [(zt 6)], za 2 (zt 7)])
  .ret)
def rc82 : RC := (.seq (.run [za 2 (zi 0)])
  (.seq (.cond (.const (.bool false))
  (.seq (.run [zr 3 (.mv (zt 0)), zr 4 (.cvi .u32 (zt 3)), zc 5 93 [(zt 4)], za 2 (zt 5)])
  .ret)
  .skip)
  rc82_0))
def ce82 : List (Nat × List Nat × List Nat) := []
def ro82 : List RO := [(.mv (zt 2))]
theorem ok82 : okFn Tryz.prog 82 8 ce82 = some (rc82, ro82) := by kernel_rfl
def rc83_0 : RC := (.seq (.block 1 (.seq (.run [zr 6 (.mv (zt 0)), zr 7 (.bin .and (zt 6) (.const (.int .u16 32768))), zr 8 (.bin .neq (zt 7) (.const (.int .u16 0))), za 3 (zt 8)])
  (.seq (.run [zr 9 (.mv (zt 0)), zr 10 (.bin .shl (zt 9) (.const (.int .u64 1))), za 0 (zt 10)])
  (.seq (.run [zr 11 (.mv (zt 3))])
  (.cond (zt 11)
  (.run [zr 12 (.mv (zt 0)), zr 13 (.bin .xor (zt 12) (.const (.int .u16 4129))), za 0 (zt 13)])
  .skip)))))
  (.run [zr 14 (.bin .add (zt 4) (zi 1)), zr 4 (.mv (zt 14))]))
def rc83_1 : RC := (.seq (.run [zr 5 (.bin .lss (zt 4) (zi 8))])
  (.seq (.cond (zt 5)
  .skip
  (.exit 0))
  rc83_0))
def rc83_2 : RC := (.seq (.run [zr 15 (.mv (zt 0)), za 2 (zt 15)])
  .ret)
def rc83 : RC := (.seq (.run [za 2 (.const (.int .u16 0))])
  (.seq (.seq (.run [zr 4 (.mv (zi 0))])
  (.block 0 (.loop rc83_1)))
  rc83_2))
def ce83 : List (Nat × List Nat × List Nat) := []
def ro83 : List RO := [(.mv (zt 2))]
theorem ok83 : okFn Tryz.prog 83 16 ce83 = some (rc83, ro83) := by kernel_rfl
def rc84 : RC := (.seq (.run [za 4 (.const (.string ⟨#[]⟩)), za 5 (.const (.string ⟨#[]⟩)), za 6 (.const (.bool false))])
  (.seq (.run [zr 7 (.mv (zt 0)), zr 8 (.mv (zt 1)), zc 9 95 [(zt 7), (zt 8)], zr 10 (.ext 0 (zt 9)), zr 11 (.ext 1 (zt 9)), zr 12 (.ext 2 (zt 9)), za 4 (zt 10), za 5 (zt 11), za 6 (zt 12)])
  .ret))
def ce84 : List (Nat × List Nat × List Nat) := []
def ro84 : List RO := [(.mv (zt 4)), (.mv (zt 5)), (.mv (zt 6))]
theorem ok84 : okFn Tryz.prog 84 13 ce84 = some (rc84, ro84) := by kernel_rfl
def rc86 : RC := (.seq (.run [za 6 (zi 0), za 7 (.const (.bool false))])
  (.seq (.run [zr 11 (.mv (zt 0)), zr 12 (.mv (zt 1)), zc 13 100 [(zt 11), (zt 12), (zi 64)], zr 10 (.mv (zt 13)), zr 14 (.ext 0 (zt 10)), zr 15 (.ext 1 (zt 10)), za 8 (zt 14), za 9 (zt 15)])
  (.seq (.run [zr 16 (.mv (zt 8)), zr 17 (.mv (zt 9)), zr 18 (.eq false (.iface []) (zt 17) (.const .nilIface)), zr 19 (.mv (zt 18)), zg 20 19 true (.mv (zt 8)), zg 21 19 true (.bin .geq (zt 20) (zi 0)), zr 22 (.pick (zt 19) (zt 21) (.const (.bool false))), zr 23 (.mv (zt 22)), zg 24 23 true (.mv (zt 8)), zg 25 23 true (.mv (zt 2)), zg 26 23 true (.bin .leq (zt 24) (zt 25)), zr 27 (.pick (zt 23) (zt 26) (.const (.bool false))), zr 28 (.mv (zt 27)), zg 29 28 true (.mv (zt 8)), zg 30 28 true (.mv (zt 1)), ⟨(some 31), (some (28, true)), (.c (.fn 31 [(zt 29), (zt 30)])), []⟩, zg 32 28 true (.mv (zt 0)), zg 33 28 true (.bin .eql (zt 31) (zt 32)), zr 34 (.pick (zt 28) (zt 33) (.const (.bool false))), za 6 (zt 16), za 7 (zt 34)])
  .ret)))
def ce86 : List (Nat × List Nat × List Nat) := []
def ro86 : List RO := [(.mv (zt 6)), (.mv (zt 7))]
theorem ok86 : okFn Tryz.prog 86 35 ce86 = some (rc86, ro86) := by kernel_rfl
def rc87 : RC := (.seq (.run [zf 1 (.bx 102 (zt 0)), za 2 (.const (.bool false))])
  (.seq (.run [zr 3 (.fa 0 (zt 1)), zr 4 (.ld (zt 3)), zc 5 101 [(zt 4)], zr 6 (.mv (zt 5)), zg 7 6 true (.fa 1 (zt 1)), zg 8 6 true (.ld (zt 7)), zg 9 6 true (.bin .geq (zt 8) (zi 0)), zr 10 (.pick (zt 6) (zt 9) (.const (.bool false))), zr 11 (.mv (zt 10)), zg 12 11 true (.fa 1 (zt 1)), zg 13 11 true (.ld (zt 12)), zg 14 11 true (.bin .leq (zt 13) (zi 8192)), zr 15 (.pick (zt 11) (zt 14) (.const (.bool false))), zr 16 (.mv (zt 15)), zg 17 16 true (.fa 2 (zt 1)), zg 18 16 true (.ld (zt 17)), zg 19 16 true (.bin .geq (zt 18) (zi 0)), zr 20 (.pick (zt 16) (zt 19) (.const (.bool false))), zr 21 (.mv (zt 20)), zg 22 21 true (.fa 2 (zt 1)), zg 23 21 true (.ld (zt 22)), zg 24 21 true (.bin .lss (zt 23) (zi 4294967296)), zr 25 (.pick (zt 21) (zt 24) (.const (.bool false))), zr 26 (.mv (zt 25)), zg 27 26 true (.fa 3 (zt 1)), zg 28 26 true (.ld (zt 27)), zg 29 26 true (.bin .geq (zt 28) (zi 0)), zr 30 (.pick (zt 26) (zt 29) (.const (.bool false))), zr 31 (.mv (zt 30)), zg 32 31 true (.fa 3 (zt 1)), zg 33 31 true (.ld (zt 32)), zg 34 31 true (.bin .lss (zt 33) (zi 65536)), zr 35 (.pick (zt 31) (zt 34) (.const (.bool false))), za 2 (zt 35)])
  .ret))
def ce87 : List (Nat × List Nat × List Nat) := []
def ro87 : List RO := [(.mv (zt 2))]
theorem ok87 : okFn Tryz.prog 87 36 ce87 = some (rc87, ro87) := by kernel_rfl
def rc88_0 : RC := (.seq (.block 1 (.seq (.run [zr 29 (.mv (zt 0)), zc 30 103 [(zt 29)], zr 28 (.mv (zt 30)), zr 31 (.ext 0 (zt 28)), zr 32 (.ext 1 (zt 28)), za 8 (zt 31), za 9 (zt 32)])
  (.seq (.run [zr 33 (.mv (zt 6)), zr 34 (.mv (zt 7)), zr 35 (.mv (zt 0)), zr 36 (.mv (zt 9)), zr 37 (.sls (zt 35) none (some (zt 36))), zr 38 (.ia 1 (zt 33) (zt 34)), ze (.st 1 (zt 38) (zt 37))])
  (.run [zr 39 (.mv (zt 0)), zr 40 (.mv (zt 9)), zr 41 (.sls (zt 39) (some (zt 40)) none), za 0 (zt 41)]))))
  (.run [zr 26 (.mv (zt 7)), zr 27 (.bin .add (zt 26) (zi 1)), za 7 (zt 27)]))
def rc88_1 : RC := (.seq (.seq (.run [zr 22 (.mv (zt 7)), zr 23 (.mv (zt 1)), zr 24 (.bin .sub (zt 23) (zi 1)), zr 25 (.bin .lss (zt 22) (zt 24))])
  (.cond (zt 25)
  .skip
  (.exit 0)))
  rc88_0)
def rc88_2 : RC := (.seq (.run [zr 49 (.mv (zt 6)), za 4 (zt 49)])
  .ret)
def rc88_3 : RC := (.seq (.seq (.run [zr 42 (.mv (zt 1)), zr 43 (.bin .gtr (zt 42) (zi 0))])
  (.cond (zt 43)
  (.run [zr 44 (.mv (zt 6)), zr 45 (.mv (zt 1)), zr 46 (.bin .sub (zt 45) (zi 1)), zr 47 (.mv (zt 0)), zr 48 (.ia 1 (zt 44) (zt 46)), ze (.st 1 (zt 48) (zt 47))])
  .skip))
  rc88_2)
def rc88_4 : RC := (.seq (.run [zr 20 (.mv (zt 1)), zf 21 (.mks 9 16 (.string ⟨#[]⟩) (zt 20) (zt 20)), za 6 (zt 21)])
  (.seq (.seq (.run [za 7 (zi 0)])
  (.block 0 (.loop rc88_1)))
  rc88_3))
def rc88 : RC := (.seq (.run [za 4 (.const (.slice none 0 0))])
  (.seq (.run [zr 10 (.mv (zt 0)), zc 11 102 [(zt 10)], za 5 (zt 11)])
  (.seq (.seq (.run [zr 12 (.mv (zt 1)), zr 13 (.bin .lss (zt 12) (zi 0)), zr 14 (.mv (zt 13)), zg 15 14 false (.mv (zt 1)), zg 16 14 false (.mv (zt 5)), zg 17 14 false (.bin .gtr (zt 15) (zt 16)), zr 18 (.pick (zt 14) (.const (.bool true)) (zt 17))])
  (.cond (zt 18)
  (.run [zr 19 (.mv (zt 5)), za 1 (zt 19)])
  .skip))
  rc88_4)))
def ce88 : List (Nat × List Nat × List Nat) := []
def ro88 : List RO := [(.mv (zt 4))]
theorem ok88 : okFn Tryz.prog 88 50 ce88 = some (rc88, ro88) := by kernel_rfl
def rc89_0 : RC := (.seq (.run [zr 26 (.mv (zt 5)), zr 27 (.bin .add (zt 26) (zi 1)), za 5 (zt 27)])
  (.run [zr 28 (.mv (zt 0)), zr 29 (.mv (zt 6)), zr 30 (.mv (zt 1)), zr 31 (.lens (zt 30)), zr 32 (.bin .add (zt 29) (zt 31)), zr 33 (.sls (zt 28) (some (zt 32)) none), za 0 (zt 33)]))
def rc89_1 : RC := (.block 1 (.seq (.run [zr 20 (.mv (zt 0)), zr 21 (.mv (zt 1)), zc 22 90 [(zt 20), (zt 21)], za 6 (zt 22)])
  (.seq (.seq (.run [zr 23 (.mv (zt 6)), zr 24 (.bin .eql (zt 23) (zi (-1)))])
  (.cond (zt 24)
  (.seq (.run [zr 25 (.mv (zt 5)), za 4 (zt 25)])
  .ret)
  .skip))
  rc89_0)))
def rc89_2 : RC := (.seq (.run [za 5 (zi 0)])
  (.block 0 (.loop rc89_1)))
def rc89_3 : RC := (.seq (.seq (.run [zr 13 (.mv (zt 1)), zr 14 (.lens (zt 13)), zr 15 (.bin .eql (zt 14) (zi 1))])
  (.cond (zt 15)
  (.seq (.run [zr 16 (.mv (zt 0)), zr 17 (.mv (zt 1)), zr 18 (.ixs (zt 17) (zi 0)), zc 19 104 [(zt 16), (zt 18)], za 4 (zt 19)])
  .ret)
  .skip))
  rc89_2)
def rc89 : RC := (.seq (.run [za 4 (zi 0)])
  (.seq (.seq (.run [zr 7 (.mv (zt 1)), zr 8 (.lens (zt 7)), zr 9 (.bin .eql (zt 8) (zi 0))])
  (.cond (zt 9)
  (.seq (.run [zr 10 (.mv (zt 0)), zc 11 102 [(zt 10)], zr 12 (.bin .add (zt 11) (zi 1)), za 4 (zt 12)])
  .ret)
  .skip))
  rc89_3))
def ce89 : List (Nat × List Nat × List Nat) := []
def ro89 : List RO := [(.mv (zt 4))]
theorem ok89 : okFn Tryz.prog 89 34 ce89 = some (rc89, ro89) := by kernel_rfl
def rc90 : RC := (.seq (.run [za 4 (zi 0)])
  (.seq (.run [zr 5 (.mv (zt 0)), zr 6 (.mv (zt 1)), zc 7 105 [(zt 5), (zt 6)], za 4 (zt 7)])
  .ret))
def ce90 : List (Nat × List Nat × List Nat) := []
def ro90 : List RO := [(.mv (zt 4))]
theorem ok90 : okFn Tryz.prog 90 8 ce90 = some (rc90, ro90) := by kernel_rfl
def rc91_0 : RC := (.seq (.run [zr 144 (.mv (zt 13)), zr 145 (.mv (zt 1)), zr 146 (.cvi .u64 (zt 145)), zr 147 (.bin .mul (zt 144) (zt 146)), za 13 (zt 147)])
  (.seq (.run [zr 148 (.mv (zt 13)), zr 149 (.mv (zt 16)), zr 150 (.cvi .u64 (zt 149)), zr 151 (.bin .add (zt 148) (zt 150)), za 17 (zt 151)])
  (.seq (.seq (.run [zr 152 (.mv (zt 17)), zr 153 (.mv (zt 13)), zr 154 (.bin .lss (zt 152) (zt 153)), zr 155 (.mv (zt 154)), zg 156 155 false (.mv (zt 17)), zg 157 155 false (.mv (zt 11)), zg 158 155 false (.bin .gtr (zt 156) (zt 157)), zr 159 (.pick (zt 155) (.const (.bool true)) (zt 158))])
  (.cond (zt 159)
  (.seq (.run [zr 160 (.mv (zt 11)), zr 161 (.mki 168 (zi 1)), za 6 (zt 160), za 7 (zt 161)])
  .ret)
  .skip))
  (.run [zr 162 (.mv (zt 17)), za 13 (zt 162)]))))
def rc91_1 : RC := (.seq (.seq (.run [zr 139 (.mv (zt 13)), zr 140 (.mv (zt 10)), zr 141 (.bin .geq (zt 139) (zt 140))])
  (.cond (zt 141)
  (.seq (.run [zr 142 (.mv (zt 11)), zr 143 (.mki 168 (zi 1)), za 6 (zt 142), za 7 (zt 143)])
  .ret)
  .skip))
  rc91_0)
def rc91_2 : RC := (.seq (.seq (.run [zr 134 (.mv (zt 16)), zr 135 (.mv (zt 1)), zr 136 (.cvi .u8 (zt 135)), zr 137 (.bin .geq (zt 134) (zt 136))])
  (.cond (zt 137)
  (.seq (.run [zr 138 (.mki 168 (zi 2)), za 6 (.const (.int .u64 0)), za 7 (zt 138)])
  .ret)
  .skip))
  rc91_1)
def rc91_3 : RC := (.seq (.block 4 (.seq (.run [zr 103 (.ia 1 (zt 99) (zt 101)), zr 104 (.ld (zt 103)), za 15 (zt 104)])
  (.seq (.run [za 16 (.const (.int .u8 0))])
  (.seq (.block 5 (.seq (.run [zr 107 (.mv (zt 15)), zr 108 (.bin .eql (zt 107) (.const (.int .u8 95))), zr 109 (.mv (zt 108)), zg 110 109 true (.mv (zt 8)), zr 111 (.pick (zt 109) (zt 110) (.const (.bool false))), za 106 (zt 111)])
  (.cond (zt 106)
  (.seq (.run [za 12 (.const (.bool true))])
  (.exit 4))
  (.seq (.run [zr 113 (.mv (zt 15)), zr 114 (.bin .leq (.const (.int .u8 48)) (zt 113)), zr 115 (.mv (zt 114)), zg 116 115 true (.mv (zt 15)), zg 117 115 true (.bin .leq (zt 116) (.const (.int .u8 57))), zr 118 (.pick (zt 115) (zt 117) (.const (.bool false))), za 112 (zt 118)])
  (.cond (zt 112)
  (.run [zr 119 (.mv (zt 15)), zr 120 (.bin .sub (zt 119) (.const (.int .u8 48))), za 16 (zt 120)])
  (.seq (.run [zr 122 (.mv (zt 15)), zc 123 106 [(zt 122)], zr 124 (.bin .leq (.const (.int .u8 97)) (zt 123)), zr 125 (.mv (zt 124)), zg 126 125 true (.mv (zt 15)), ⟨(some 127), (some (125, true)), (.c (.fn 106 [(zt 126)])), []⟩, zg 128 125 true (.bin .leq (zt 127) (.const (.int .u8 122))), zr 129 (.pick (zt 125) (zt 128) (.const (.bool false))), za 121 (zt 129)])
  (.cond (zt 121)
  (.run [zr 130 (.mv (zt 15)), zc 131 106 [(zt 130)], zr 132 (.bin .sub (zt 131) (.const (.int .u8 97))), zr 133 (.bin .add (zt 132) (.const (.int .u8 10))), za 16 (zt 133)])
  (.seq (.run [zr 105 (.mki 168 (zi 2)), za 6 (.const (.int .u64 0)), za 7 (zt 105)])
  .ret))))))))
  rc91_2))))
  (.run [zr 163 (.bin .add (zt 101) (zi 1)), zr 101 (.mv (zt 163))]))
def rc91_4 : RC := (.seq (.run [zr 102 (.bin .lss (zt 101) (zt 100))])
  (.seq (.cond (zt 102)
  .skip
  (.exit 3))
  rc91_3))
def rc91_5 : RC := (.seq (.run [zr 171 (.mv (zt 13)), za 6 (zt 171), za 7 (.const .nilIface)])
  .ret)
def rc91_6 : RC := (.seq (.seq (.run [zr 164 (.mv (zt 12)), zr 165 (.mv (zt 164)), zg 166 165 true (.mv (zt 9)), ⟨(some 167), (some (165, true)), (.c (.fn 107 [(zt 166)])), []⟩, zg 168 165 true (.not (zt 167)), zr 169 (.pick (zt 165) (zt 168) (.const (.bool false)))])
  (.cond (zt 169)
  (.seq (.run [zr 170 (.mki 168 (zi 2)), za 6 (.const (.int .u64 0)), za 7 (zt 170)])
  .ret)
  .skip))
  rc91_5)
def rc91_7 : RC := (.seq (.run [zr 94 (.mv (zt 2)), zr 95 (.cvi .u64 (zt 94)), zr 96 (.bin .shl (.const (.int .u64 1)) (zt 95)), zr 97 (.bin .sub (zt 96) (.const (.int .u64 1))), za 11 (zt 97)])
  (.seq (.run [za 12 (.const (.bool false))])
  (.seq (.run [za 13 (.const (.int .u64 0))])
  (.seq (.seq (.run [zr 98 (.mv (zt 0)), zf 99 (.s2b 5 (zt 98)), zr 100 (.lenl (zt 99)), zr 101 (.mv (zi 0))])
  (.block 3 (.loop rc91_4)))
  rc91_6))))
def rc91_8 : RC := (.seq (.run [za 10 (.const (.int .u64 0))])
  (.seq (.seq (.run [zr 85 (.mv (zt 1))])
  (.block 2 (.seq (.run [zr 91 (.bin .eql (zt 85) (zi 10)), za 90 (zt 91)])
  (.cond (zt 90)
  (.run [za 10 (.const (.int .u64 1844674407370955162))])
  (.seq (.run [zr 93 (.bin .eql (zt 85) (zi 16)), za 92 (zt 93)])
  (.cond (zt 92)
  (.run [za 10 (.const (.int .u64 1152921504606846976))])
  (.run [zr 86 (.mv (zt 1)), zr 87 (.cvi .u64 (zt 86)), zr 88 (.bin .quo (.const (.int .u64 18446744073709551615)) (zt 87)), zr 89 (.bin .add (zt 88) (.const (.int .u64 1))), za 10 (zt 89)])))))))
  rc91_7))
def rc91_9 : RC := (.seq (.seq (.run [zr 76 (.mv (zt 2)), zr 77 (.bin .eql (zt 76) (zi 0))])
  (.cond (zt 77)
  (.run [za 2 (zi 64)])
  (.seq (.run [zr 78 (.mv (zt 2)), zr 79 (.bin .lss (zt 78) (zi 0)), zr 80 (.mv (zt 79)), zg 81 80 false (.mv (zt 2)), zg 82 80 false (.bin .gtr (zt 81) (zi 64)), zr 83 (.pick (zt 80) (.const (.bool true)) (zt 82))])
  (.cond (zt 83)
  (.seq (.run [zr 84 (.mki 168 (zi 4)), za 6 (.const (.int .u64 0)), za 7 (zt 84)])
  .ret)
  .skip))))
  rc91_8)
def rc91_10 : RC := (.seq (.run [zr 21 (.mv (zt 1)), zr 22 (.bin .eql (zt 21) (zi 0)), za 8 (zt 22)])
  (.seq (.run [zr 23 (.mv (zt 0)), za 9 (zt 23)])
  (.seq (.block 0 (.seq (.run [zr 26 (.mv (zt 1)), zr 27 (.bin .leq (zi 2) (zt 26)), zr 28 (.mv (zt 27)), zg 29 28 true (.mv (zt 1)), zg 30 28 true (.bin .leq (zt 29) (zi 36)), zr 31 (.pick (zt 28) (zt 30) (.const (.bool false))), za 25 (zt 31)])
  (.cond (zt 25)
  .skip
  (.seq (.run [zr 33 (.mv (zt 1)), zr 34 (.bin .eql (zt 33) (zi 0)), za 32 (zt 34)])
  (.cond (zt 32)
  (.seq (.run [za 1 (zi 10)])
  (.seq (.run [zr 35 (.mv (zt 0)), zr 36 (.ixs (zt 35) (zi 0)), zr 37 (.bin .eql (zt 36) (.const (.int .u8 48)))])
  (.cond (zt 37)
  (.block 1 (.seq (.run [zr 41 (.mv (zt 0)), zr 42 (.lens (zt 41)), zr 43 (.bin .geq (zt 42) (zi 3)), zr 44 (.mv (zt 43)), zg 45 44 true (.mv (zt 0)), zg 46 44 true (.ixs (zt 45) (zi 1)), ⟨(some 47), (some (44, true)), (.c (.fn 106 [(zt 46)])), []⟩, zg 48 44 true (.bin .eql (zt 47) (.const (.int .u8 98))), zr 49 (.pick (zt 44) (zt 48) (.const (.bool false))), za 40 (zt 49)])
  (.cond (zt 40)
  (.seq (.run [za 1 (zi 2)])
  (.run [zr 50 (.mv (zt 0)), zr 51 (.sls (zt 50) (some (zi 2)) none), za 0 (zt 51)]))
  (.seq (.run [zr 53 (.mv (zt 0)), zr 54 (.lens (zt 53)), zr 55 (.bin .geq (zt 54) (zi 3)), zr 56 (.mv (zt 55)), zg 57 56 true (.mv (zt 0)), zg 58 56 true (.ixs (zt 57) (zi 1)), ⟨(some 59), (some (56, true)), (.c (.fn 106 [(zt 58)])), []⟩, zg 60 56 true (.bin .eql (zt 59) (.const (.int .u8 111))), zr 61 (.pick (zt 56) (zt 60) (.const (.bool false))), za 52 (zt 61)])
  (.cond (zt 52)
  (.seq (.run [za 1 (zi 8)])
  (.run [zr 62 (.mv (zt 0)), zr 63 (.sls (zt 62) (some (zi 2)) none), za 0 (zt 63)]))
  (.seq (.run [zr 65 (.mv (zt 0)), zr 66 (.lens (zt 65)), zr 67 (.bin .geq (zt 66) (zi 3)), zr 68 (.mv (zt 67)), zg 69 68 true (.mv (zt 0)), zg 70 68 true (.ixs (zt 69) (zi 1)), ⟨(some 71), (some (68, true)), (.c (.fn 106 [(zt 70)])), []⟩, zg 72 68 true (.bin .eql (zt 71) (.const (.int .u8 120))), zr 73 (.pick (zt 68) (zt 72) (.const (.bool false))), za 64 (zt 73)])
  (.cond (zt 64)
  (.seq (.run [za 1 (zi 16)])
  (.run [zr 74 (.mv (zt 0)), zr 75 (.sls (zt 74) (some (zi 2)) none), za 0 (zt 75)]))
  (.seq (.run [za 1 (zi 8)])
  (.run [zr 38 (.mv (zt 0)), zr 39 (.sls (zt 38) (some (zi 1)) none), za 0 (zt 39)])))))))))
  .skip)))
  (.seq (.run [zr 24 (.mki 168 (zi 3)), za 6 (.const (.int .u64 0)), za 7 (zt 24)])
  .ret))))))
  rc91_9)))
def rc91 : RC := (.seq (.run [za 6 (.const (.int .u64 0)), za 7 (.const .nilIface)])
  (.seq (.seq (.run [zr 18 (.mv (zt 0)), zr 19 (.bin .eql (zt 18) (.const (.string ⟨#[]⟩)))])
  (.cond (zt 19)
  (.seq (.run [zr 20 (.mki 168 (zi 2)), za 6 (.const (.int .u64 0)), za 7 (zt 20)])
  .ret)
  .skip))
  rc91_10))
def ce91 : List (Nat × List Nat × List Nat) := []
def ro91 : List RO := [(.mv (zt 6)), (.mv (zt 7))]
theorem ok91 : okFn Tryz.prog 91 172 ce91 = some (rc91, ro91) := by kernel_rfl
def rc92_0 : RC := (.seq (.run [zr 42 (.mv (zt 4)), za 10 (zt 42)])
  .ret)
def rc92 : RC := (.seq (.run [za 10 (.const .nilIface)])
  (.seq (.seq (.run [zr 11 (.mv (zt 4))])
  (.block 0 (.seq (.run [zr 13 (.mki 168 (zi 2)), zr 14 (.ieq false [2, 3, 5, 6, 12, 21, 22, 41, 50, 85, 100, 108, 110, 168, 198, 199, 201, 202] (zt 11) (zt 13)), za 12 (zt 14)])
  (.cond (zt 12)
  (.seq (.run [zr 15 (.mv (zt 0)), zr 16 (.mv (zt 1)), zc 17 108 [(zt 15), (zt 16)], zr 18 (.mki 170 (zt 17)), za 10 (zt 18)])
  .ret)
  (.seq (.run [zr 20 (.mki 168 (zi 1)), zr 21 (.ieq false [2, 3, 5, 6, 12, 21, 22, 41, 50, 85, 100, 108, 110, 168, 198, 199, 201, 202] (zt 11) (zt 20)), za 19 (zt 21)])
  (.cond (zt 19)
  (.seq (.run [zr 22 (.mv (zt 0)), zr 23 (.mv (zt 1)), zc 24 109 [(zt 22), (zt 23)], zr 25 (.mki 170 (zt 24)), za 10 (zt 25)])
  .ret)
  (.seq (.run [zr 27 (.mki 168 (zi 3)), zr 28 (.ieq false [2, 3, 5, 6, 12, 21, 22, 41, 50, 85, 100, 108, 110, 168, 198, 199, 201, 202] (zt 11) (zt 27)), za 26 (zt 28)])
  (.cond (zt 26)
  (.seq (.run [zr 29 (.mv (zt 0)), zr 30 (.mv (zt 1)), zr 31 (.mv (zt 2)), zc 32 110 [(zt 29), (zt 30), (zt 31)], zr 33 (.mki 170 (zt 32)), za 10 (zt 33)])
  .ret)
  (.seq (.run [zr 35 (.mki 168 (zi 4)), zr 36 (.ieq false [2, 3, 5, 6, 12, 21, 22, 41, 50, 85, 100, 108, 110, 168, 198, 199, 201, 202] (zt 11) (zt 35)), za 34 (zt 36)])
  (.cond (zt 34)
  (.seq (.run [zr 37 (.mv (zt 0)), zr 38 (.mv (zt 1)), zr 39 (.mv (zt 3)), zc 40 111 [(zt 37), (zt 38), (zt 39)], zr 41 (.mki 170 (zt 40)), za 10 (zt 41)])
  .ret)
  .skip))))))))))
  rc92_0))
def ce92 : List (Nat × List Nat × List Nat) := []
def ro92 : List RO := [(.mv (zt 10))]
theorem ok92 : okFn Tryz.prog 92 43 ce92 = some (rc92, ro92) := by kernel_rfl
def rc93_0 : RC := (.seq (.run [zr 5 (.mv (zt 0)), zr 6 (.mv (zt 0)), zr 7 (.neg (zt 6)), zr 8 (.bin .and (zt 5) (zt 7)), zr 9 (.bin .mul (zt 8) (.const (.int .u32 125613361))), zr 10 (.bin .shr (zt 9) (.const (.int .u64 27))), zr 11 (.iaa 32 1 (.global 1) (zt 10)), zr 12 (.ld (zt 11)), zr 13 (.cvi .i64 (zt 12)), za 2 (zt 13)])
  .ret)
def rc93 : RC := (.seq (.run [za 2 (zi 0)])
  (.seq (.seq (.run [zr 3 (.mv (zt 0)), zr 4 (.bin .eql (zt 3) (.const (.int .u32 0)))])
  (.cond (zt 4)
  (.seq (.run [za 2 (zi 32)])
  .ret)
  .skip))
  rc93_0))
def ce93 : List (Nat × List Nat × List Nat) := []
def ro93 : List RO := [(.mv (zt 2))]
theorem ok93 : okFn Tryz.prog 93 14 ce93 = some (rc93, ro93) := by kernel_rfl
def rc94_0 : RC := (.seq (.run [zr 5 (.mv (zt 0)), zr 6 (.mv (zt 0)), zr 7 (.neg (zt 6)), zr 8 (.bin .and (zt 5) (zt 7)), zr 9 (.bin .mul (zt 8) (.const (.int .u64 285870213051353865))), zr 10 (.bin .shr (zt 9) (.const (.int .u64 58))), zr 11 (.iaa 64 1 (.global 2) (zt 10)), zr 12 (.ld (zt 11)), zr 13 (.cvi .i64 (zt 12)), za 2 (zt 13)])
  .ret)
def rc94 : RC := (.seq (.run [za 2 (zi 0)])
  (.seq (.seq (.run [zr 3 (.mv (zt 0)), zr 4 (.bin .eql (zt 3) (.const (.int .u64 0)))])
  (.cond (zt 4)
  (.seq (.run [za 2 (zi 64)])
  .ret)
  .skip))
  rc94_0))
def ce94 : List (Nat × List Nat × List Nat) := []
def ro94 : List RO := [(.mv (zt 2))]
theorem ok94 : okFn Tryz.prog 94 14 ce94 = some (rc94, ro94) := by kernel_rfl
def rc95_0 : RC := (.seq (.run [zr 22 (.mv (zt 0)), za 4 (zt 22), za 5 (.const (.string ⟨#[]⟩)), za 6 (.const (.bool false))])
  .ret)
def rc95 : RC := (.seq (.run [za 4 (.const (.string ⟨#[]⟩)), za 5 (.const (.string ⟨#[]⟩)), za 6 (.const (.bool false))])
  (.seq (.seq (.run [zr 8 (.mv (zt 0)), zr 9 (.mv (zt 1)), zc 10 105 [(zt 8), (zt 9)], za 7 (zt 10)])
  (.seq (.run [zr 11 (.mv (zt 7)), zr 12 (.bin .geq (zt 11) (zi 0))])
  (.cond (zt 12)
  (.seq (.run [zr 13 (.mv (zt 0)), zr 14 (.mv (zt 7)), zr 15 (.sls (zt 13) none (some (zt 14))), zr 16 (.mv (zt 0)), zr 17 (.mv (zt 7)), zr 18 (.mv (zt 1)), zr 19 (.lens (zt 18)), zr 20 (.bin .add (zt 17) (zt 19)), zr 21 (.sls (zt 16) (some (zt 20)) none), za 4 (zt 15), za 5 (zt 21), za 6 (.const (.bool true))])
  .ret)
  .skip)))
  rc95_0))
def ce95 : List (Nat × List Nat × List Nat) := [(3, [0, 1, 2, 3, 4, 5, 6, 7, 8, 9, 10, 11], [0, 0, 3, 0, 0, 0, 32, 112, 248, 7, 1023, 2047])]
def ro95 : List RO := [(.mv (zt 4)), (.mv (zt 5)), (.mv (zt 6))]
theorem ok95 : okFn Tryz.prog 95 23 ce95 = some (rc95, ro95) := by kernel_rfl
def rc100_0 : RC := (.seq (.run [zr 24 (.mv (zt 8)), za 6 (zt 24), za 7 (.const .nilIface)])
  .ret)
def rc100 : RC := (.seq (.run [za 6 (zi 0), za 7 (.const .nilIface)])
  (.seq (.run [zr 10 (.mv (zt 0)), zr 11 (.mv (zt 1)), zr 12 (.mv (zt 2)), zc 13 115 [(zt 10), (zt 11), (zt 12)], zr 9 (.mv (zt 13)), zr 14 (.ext 0 (zt 9)), zr 15 (.ext 1 (zt 9)), za 8 (zt 14), za 7 (zt 15)])
  (.seq (.seq (.run [zr 16 (.mv (zt 7)), zr 17 (.eq true (.iface []) (zt 16) (.const .nilIface))])
  (.cond (zt 17)
  (.seq (.run [zr 18 (.mv (zt 8)), zr 19 (.mv (zt 0)), zr 20 (.mv (zt 1)), zr 21 (.mv (zt 2)), zr 22 (.mv (zt 7)), zc 23 92 [(.const (.string ⟨#[80, 97, 114, 115, 101, 73, 110, 116]⟩)), (zt 19), (zt 20), (zt 21), (zt 22)], za 6 (zt 18), za 7 (zt 23)])
  .ret)
  .skip))
  rc100_0)))
def ce100 : List (Nat × List Nat × List Nat) := []
def ro100 : List RO := [(.mv (zt 6)), (.mv (zt 7))]
theorem ok100 : okFn Tryz.prog 100 25 ce100 = some (rc100, ro100) := by kernel_rfl
def rc101_0 : RC := (.seq (.block 1 (.seq (.run [zr 10 (.mv (zt 8)), za 3 (zt 10)])
  (.seq (.run [zr 11 (.mv (zt 0)), zr 12 (.mv (zt 3)), zr 13 (.ixs (zt 11) (zt 12)), za 4 (zt 13)])
  (.seq (.run [zr 14 (.mv (zt 4)), zr 15 (.bin .geq (zt 14) (.const (.int .u8 97))), zr 16 (.mv (zt 15)), zg 17 16 true (.mv (zt 4)), zg 18 16 true (.bin .leq (zt 17) (.const (.int .u8 122))), zr 19 (.pick (zt 16) (zt 18) (.const (.bool false))), zr 20 (.mv (zt 19)), zg 21 20 false (.mv (zt 4)), zg 22 20 false (.bin .geq (zt 21) (.const (.int .u8 65))), zg 23 20 false (.mv (zt 22)), zg 24 23 true (.mv (zt 4)), zg 25 23 true (.bin .leq (zt 24) (.const (.int .u8 90))), zg 26 20 false (.pick (zt 23) (zt 25) (.const (.bool false))), zr 27 (.pick (zt 20) (.const (.bool true)) (zt 26)), za 5 (zt 27)])
  (.seq (.run [zr 28 (.mv (zt 5)), zr 29 (.not (zt 28)), zr 30 (.mv (zt 29)), zg 31 30 true (.mv (zt 3)), zg 32 30 true (.bin .eql (zt 31) (zi 0)), zg 33 30 true (.mv (zt 32)), zg 34 33 false (.mv (zt 4)), zg 35 33 false (.bin .neq (zt 34) (.const (.int .u8 46))), zg 36 33 false (.mv (zt 35)), zg 37 36 true (.mv (zt 4)), zg 38 36 true (.bin .neq (zt 37) (.const (.int .u8 45))), zg 39 33 false (.pick (zt 36) (zt 38) (.const (.bool false))), zg 40 33 false (.mv (zt 39)), zg 41 40 true (.mv (zt 4)), zg 42 40 true (.bin .neq (zt 41) (.const (.int .u8 95))), zg 43 33 false (.pick (zt 40) (zt 42) (.const (.bool false))), zg 44 33 false (.mv (zt 43)), zg 45 44 true (.mv (zt 4)), zg 46 44 true (.bin .lss (zt 45) (.const (.int .u8 48))), zg 47 44 true (.mv (zt 46)), zg 48 47 false (.mv (zt 4)), zg 49 47 false (.bin .gtr (zt 48) (.const (.int .u8 57))), zg 50 44 true (.pick (zt 47) (.const (.bool true)) (zt 49)), zg 51 33 false (.pick (zt 44) (zt 50) (.const (.bool false))), zg 52 30 true (.pick (zt 33) (.const (.bool true)) (zt 51)), zr 53 (.pick (zt 30) (zt 52) (.const (.bool false)))])
  (.cond (zt 53)
  (.seq (.run [za 2 (.const (.bool false))])
  .ret)
  .skip))))))
  (.run [zr 54 (.bin .add (zt 8) (zi 1)), zr 8 (.mv (zt 54))]))
def rc101_1 : RC := (.seq (.run [zr 9 (.bin .lss (zt 8) (zt 7))])
  (.seq (.cond (zt 9)
  .skip
  (.exit 0))
  rc101_0))
def rc101_2 : RC := (.seq (.run [zr 55 (.mv (zt 0)), zr 56 (.lens (zt 55)), zr 57 (.bin .gtr (zt 56) (zi 0)), zr 58 (.mv (zt 57)), zg 59 58 true (.mv (zt 0)), zg 60 58 true (.lens (zt 59)), zg 61 58 true (.bin .leq (zt 60) (zi 32)), zr 62 (.pick (zt 58) (zt 61) (.const (.bool false))), za 2 (zt 62)])
  .ret)
def rc101 : RC := (.seq (.run [za 2 (.const (.bool false))])
  (.seq (.seq (.run [zr 6 (.mv (zt 0)), zr 7 (.lens (zt 6)), zr 8 (.mv (zi 0))])
  (.block 0 (.loop rc101_1)))
  rc101_2))
def ce101 : List (Nat × List Nat × List Nat) := []
def ro101 : List RO := [(.mv (zt 2))]
theorem ok101 : okFn Tryz.prog 101 63 ce101 = some (rc101, ro101) := by kernel_rfl
def rc102_0 : RC := (.block 1 (.run [zr 7 (.mv (zt 2)), zr 8 (.bin .add (zt 7) (zi 1)), za 2 (zt 8)]))
def rc102_1 : RC := (.seq (.run [⟨(some 5), none, .bad, []⟩, zr 6 (.ext 0 (zt 5))])
  (.seq (.cond (zt 6)
  .skip
  (.exit 0))
  rc102_0))
def rc102_2 : RC := (.seq (.run [zr 9 (.mv (zt 2)), za 2 (zt 9)])
  .ret)
def rc102 : RC := (.seq (.run [za 2 (zi 0)])
  (.seq (.seq (.run [zr 3 (.mv (zt 0)), ⟨(some 4), none, .bad, []⟩])
  (.block 0 (.loop rc102_1)))
  rc102_2))
def ce102 : List (Nat × List Nat × List Nat) := []
def ro102 : List RO := [(.mv (zt 2))]
theorem ok102 : okFn Tryz.prog 102 10 ce102 = some (rc102, ro102) := by kernel_rfl
def rc103 : RC := (.seq (.run [za 2 (.const (.int .i32 0)), za 3 (zi 0)])
  (.seq (.seq (.run [zr 4 (.mv (zt 0)), zr 5 (.bin .neq (zt 4) (.const (.string ⟨#[]⟩))), zr 6 (.mv (zt 5)), zg 7 6 true (.mv (zt 0)), zg 8 6 true (.ixs (zt 7) (zi 0)), zg 9 6 true (.bin .lss (zt 8) (.const (.int .u8 128))), zr 10 (.pick (zt 6) (zt 9) (.const (.bool false)))])
  (.cond (zt 10)
  (.seq (.run [zr 11 (.mv (zt 0)), zr 12 (.ixs (zt 11) (zi 0)), zr 13 (.cvi .i32 (zt 12)), za 2 (zt 13), za 3 (zi 1)])
  .ret)
  (.run [zr 15 (.mv (zt 0)), zc 16 116 [(zt 15)], zr 14 (.mv (zt 16)), zr 17 (.ext 0 (zt 14)), zr 18 (.ext 1 (zt 14)), za 2 (zt 17), za 3 (zt 18)])))
  .ret))
def ce103 : List (Nat × List Nat × List Nat) := []
def ro103 : List RO := [(.mv (zt 2)), (.mv (zt 3))]
theorem ok103 : okFn Tryz.prog 103 19 ce103 = some (rc103, ro103) := by kernel_rfl
def rc105_0 : RC := (.seq (.run [za 4 (zi (-1))])
  .ret)
def rc105_1 : RC := (.seq (.run [zr 140 (.mv (zt 8)), zr 141 (.mv (zt 13)), zr 142 (.bin .add (zt 140) (zt 141)), za 4 (zt 142)])
  .ret)
def rc105_2 : RC := (.seq (.run [zr 95 (.mv (zt 8)), zr 96 (.bin .add (zt 95) (zi 1)), za 8 (zt 96)])
  (.seq (.run [zr 97 (.mv (zt 10)), zr 98 (.bin .add (zt 97) (zi 1)), za 10 (zt 98)])
  (.seq (.run [zr 99 (.mv (zt 5)), zr 100 (.ld (.global 3)), zr 101 (.bin .leq (zt 99) (zt 100)), zr 102 (.mv (zt 101)), zg 103 102 true (.mv (zt 10)), zg 104 102 true (.mv (zt 8)), ⟨(some 105), (some (102, true)), (.c (.fn 119 [(zt 104)])), []⟩, zg 106 102 true (.bin .gtr (zt 103) (zt 105)), zr 107 (.pick (zt 102) (zt 106) (.const (.bool false)))])
  (.cond (zt 107)
  (.seq (.run [zr 108 (.mv (zt 0)), zr 109 (.mv (zt 8)), zr 110 (.sls (zt 108) (some (zt 109)) none), zr 111 (.mv (zt 1)), zc 112 118 [(zt 110), (zt 111)], za 12 (zt 112)])
  (.seq (.seq (.run [zr 113 (.mv (zt 12)), zr 114 (.bin .geq (zt 113) (zi 0))])
  (.cond (zt 114)
  (.seq (.run [zr 115 (.mv (zt 12)), zr 116 (.mv (zt 8)), zr 117 (.bin .add (zt 115) (zt 116)), za 4 (zt 117)])
  .ret)
  .skip))
  rc105_0))
  (.seq (.run [zr 118 (.mv (zt 5)), zr 119 (.ld (.global 3)), zr 120 (.bin .gtr (zt 118) (zt 119)), zr 121 (.mv (zt 120)), zg 122 121 true (.mv (zt 10)), zg 123 121 true (.mv (zt 8)), zg 124 121 true (.bin .shr (zt 123) (.const (.int .u64 4))), zg 125 121 true (.bin .add (zi 4) (zt 124)), zg 126 121 true (.bin .geq (zt 122) (zt 125)), zr 127 (.pick (zt 121) (zt 126) (.const (.bool false))), zr 128 (.mv (zt 127)), zg 129 128 true (.mv (zt 8)), zg 130 128 true (.mv (zt 9)), zg 131 128 true (.bin .lss (zt 129) (zt 130)), zr 132 (.pick (zt 128) (zt 131) (.const (.bool false)))])
  (.cond (zt 132)
  (.seq (.run [zr 133 (.mv (zt 0)), zr 134 (.mv (zt 8)), zr 135 (.sls (zt 133) (some (zt 134)) none), zr 136 (.mv (zt 1)), zc 137 120 [(zt 135), (zt 136)], za 13 (zt 137)])
  (.seq (.seq (.run [zr 138 (.mv (zt 13)), zr 139 (.bin .lss (zt 138) (zi 0))])
  (.cond (zt 139)
  (.seq (.run [za 4 (zi (-1))])
  .ret)
  .skip))
  rc105_1))
  .skip))))))
def rc105_3 : RC := (.seq (.seq (.run [zr 78 (.mv (zt 0)), zr 79 (.mv (zt 8)), zr 80 (.bin .add (zt 79) (zi 1)), zr 81 (.ixs (zt 78) (zt 80)), zr 82 (.mv (zt 7)), zr 83 (.bin .eql (zt 81) (zt 82)), zr 84 (.mv (zt 83)), zg 85 84 true (.mv (zt 0)), zg 86 84 true (.mv (zt 8)), zg 87 84 true (.mv (zt 8)), zg 88 84 true (.mv (zt 5)), zg 89 84 true (.bin .add (zt 87) (zt 88)), zg 90 84 true (.sls (zt 85) (some (zt 86)) (some (zt 89))), zg 91 84 true (.mv (zt 1)), zg 92 84 true (.bin .eql (zt 90) (zt 91)), zr 93 (.pick (zt 84) (zt 92) (.const (.bool false)))])
  (.cond (zt 93)
  (.seq (.run [zr 94 (.mv (zt 8)), za 4 (zt 94)])
  .ret)
  .skip))
  rc105_2)
def rc105_4 : RC := (.block 2 (.seq (.seq (.run [zr 60 (.mv (zt 0)), zr 61 (.mv (zt 8)), zr 62 (.ixs (zt 60) (zt 61)), zr 63 (.mv (zt 6)), zr 64 (.bin .neq (zt 62) (zt 63))])
  (.cond (zt 64)
  (.seq (.run [zr 65 (.mv (zt 0)), zr 66 (.mv (zt 8)), zr 67 (.bin .add (zt 66) (zi 1)), zr 68 (.mv (zt 9)), zr 69 (.sls (zt 65) (some (zt 67)) (some (zt 68))), zr 70 (.mv (zt 6)), zc 71 117 [(zt 69), (zt 70)], za 11 (zt 71)])
  (.seq (.seq (.run [zr 72 (.mv (zt 11)), zr 73 (.bin .lss (zt 72) (zi 0))])
  (.cond (zt 73)
  (.seq (.run [za 4 (zi (-1))])
  .ret)
  .skip))
  (.run [zr 74 (.mv (zt 8)), zr 75 (.mv (zt 11)), zr 76 (.bin .add (zt 75) (zi 1)), zr 77 (.bin .add (zt 74) (zt 76)), za 8 (zt 77)])))
  .skip))
  rc105_3))
def rc105_5 : RC := (.seq (.seq (.run [zr 57 (.mv (zt 8)), zr 58 (.mv (zt 9)), zr 59 (.bin .lss (zt 57) (zt 58))])
  (.cond (zt 59)
  .skip
  (.exit 1)))
  rc105_4)
def rc105_6 : RC := (.seq (.run [zr 48 (.mv (zt 1)), zr 49 (.ixs (zt 48) (zi 0)), za 6 (zt 49)])
  (.seq (.run [zr 50 (.mv (zt 1)), zr 51 (.ixs (zt 50) (zi 1)), za 7 (zt 51)])
  (.seq (.run [za 8 (zi 0)])
  (.seq (.run [zr 52 (.mv (zt 0)), zr 53 (.lens (zt 52)), zr 54 (.mv (zt 5)), zr 55 (.bin .sub (zt 53) (zt 54)), zr 56 (.bin .add (zt 55) (zi 1)), za 9 (zt 56)])
  (.seq (.run [za 10 (zi 0)])
  (.seq (.block 1 (.loop rc105_5))
  rc105_0))))))
def rc105 : RC := (.seq (.run [za 4 (zi 0)])
  (.seq (.run [zr 14 (.mv (zt 1)), zr 15 (.lens (zt 14)), za 5 (zt 15)])
  (.seq (.block 0 (.seq (.run [zr 17 (.mv (zt 5)), zr 18 (.bin .eql (zt 17) (zi 0)), zr 19 (.mv (zt 18)), zg 20 19 false (.mv (zt 1)), zg 21 19 false (.mv (zt 0)), zg 22 19 false (.bin .eql (zt 20) (zt 21)), zr 23 (.pick (zt 19) (.const (.bool true)) (zt 22)), za 16 (zt 23)])
  (.cond (zt 16)
  (.seq (.run [za 4 (zi 0)])
  .ret)
  (.seq (.run [zr 25 (.mv (zt 5)), zr 26 (.bin .eql (zt 25) (zi 1)), za 24 (zt 26)])
  (.cond (zt 24)
  (.seq (.run [zr 27 (.mv (zt 0)), zr 28 (.mv (zt 1)), zr 29 (.ixs (zt 28) (zi 0)), zc 30 117 [(zt 27), (zt 29)], za 4 (zt 30)])
  .ret)
  (.seq (.run [zr 32 (.mv (zt 5)), zr 33 (.mv (zt 0)), zr 34 (.lens (zt 33)), zr 35 (.bin .geq (zt 32) (zt 34)), za 31 (zt 35)])
  (.cond (zt 31)
  (.seq (.run [za 4 (zi (-1))])
  .ret)
  (.seq (.run [zr 37 (.mv (zt 5)), zr 38 (.ld (.global 3)), zr 39 (.bin .leq (zt 37) (zt 38)), zr 40 (.mv (zt 39)), zg 41 40 true (.mv (zt 0)), zg 42 40 true (.lens (zt 41)), zg 43 40 true (.bin .leq (zt 42) (zi 64)), zr 44 (.pick (zt 40) (zt 43) (.const (.bool false))), za 36 (zt 44)])
  (.cond (zt 36)
  (.seq (.run [zr 45 (.mv (zt 0)), zr 46 (.mv (zt 1)), zc 47 118 [(zt 45), (zt 46)], za 4 (zt 47)])
  .ret)
  .skip)))))))))
  rc105_6)))
def ce105 : List (Nat × List Nat × List Nat) := []
def ro105 : List RO := [(.mv (zt 4))]
theorem ok105 : okFn Tryz.prog 105 143 ce105 = some (rc105, ro105) := by kernel_rfl
def rc106 : RC := (.seq (.run [za 2 (.const (.int .u8 0))])
  (.seq (.run [zr 3 (.mv (zt 0)), zr 4 (.bin .or (zt 3) (.const (.int .u8 32))), za 2 (zt 4)])
  .ret))
def ce106 : List (Nat × List Nat × List Nat) := []
def ro106 : List RO := [(.mv (zt 2))]
theorem ok106 : okFn Tryz.prog 106 5 ce106 = some (rc106, ro106) := by kernel_rfl
def rc107_0 : RC := (.seq (.run [za 3 (.const (.int .i32 95))])
  (.exit 1))
def rc107_1 : RC := (.seq (.seq (.run [zr 90 (.mv (zt 3)), zr 91 (.bin .eql (zt 90) (.const (.int .i32 95)))])
  (.cond (zt 91)
  (.seq (.run [za 2 (.const (.bool false))])
  .ret)
  .skip))
  (.run [za 3 (.const (.int .i32 33))]))
def rc107_2 : RC := (.seq (.seq (.run [zr 84 (.mv (zt 0)), zr 85 (.mv (zt 4)), zr 86 (.ixs (zt 84) (zt 85)), zr 87 (.bin .eql (zt 86) (.const (.int .u8 95)))])
  (.cond (zt 87)
  (.seq (.seq (.run [zr 88 (.mv (zt 3)), zr 89 (.bin .neq (zt 88) (.const (.int .i32 48)))])
  (.cond (zt 89)
  (.seq (.run [za 2 (.const (.bool false))])
  .ret)
  .skip))
  rc107_0)
  .skip))
  rc107_1)
def rc107_3 : RC := (.seq (.block 1 (.seq (.seq (.run [zr 57 (.mv (zt 0)), zr 58 (.mv (zt 4)), zr 59 (.ixs (zt 57) (zt 58)), zr 60 (.bin .leq (.const (.int .u8 48)) (zt 59)), zr 61 (.mv (zt 60)), zg 62 61 true (.mv (zt 0)), zg 63 61 true (.mv (zt 4)), zg 64 61 true (.ixs (zt 62) (zt 63)), zg 65 61 true (.bin .leq (zt 64) (.const (.int .u8 57))), zr 66 (.pick (zt 61) (zt 65) (.const (.bool false))), zr 67 (.mv (zt 66)), zg 68 67 false (.mv (zt 5)), zg 69 67 false (.mv (zt 68)), zg 70 69 true (.mv (zt 0)), zg 71 69 true (.mv (zt 4)), zg 72 69 true (.ixs (zt 70) (zt 71)), ⟨(some 73), (some (69, true)), (.c (.fn 106 [(zt 72)])), []⟩, zg 74 69 true (.bin .leq (.const (.int .u8 97)) (zt 73)), zg 75 67 false (.pick (zt 69) (zt 74) (.const (.bool false))), zg 76 67 false (.mv (zt 75)), zg 77 76 true (.mv (zt 0)), zg 78 76 true (.mv (zt 4)), zg 79 76 true (.ixs (zt 77) (zt 78)), ⟨(some 80), (some (76, true)), (.c (.fn 106 [(zt 79)])), []⟩, zg 81 76 true (.bin .leq (zt 80) (.const (.int .u8 102))), zg 82 67 false (.pick (zt 76) (zt 81) (.const (.bool false))), zr 83 (.pick (zt 67) (.const (.bool true)) (zt 82))])
  (.cond (zt 83)
  (.seq (.run [za 3 (.const (.int .i32 48))])
  (.exit 1))
  .skip))
  rc107_2))
  (.run [zr 55 (.mv (zt 4)), zr 56 (.bin .add (zt 55) (zi 1)), za 4 (zt 56)]))
def rc107_4 : RC := (.seq (.seq (.run [zr 51 (.mv (zt 4)), zr 52 (.mv (zt 0)), zr 53 (.lens (zt 52)), zr 54 (.bin .lss (zt 51) (zt 53))])
  (.cond (zt 54)
  .skip
  (.exit 0)))
  rc107_3)
def rc107_5 : RC := (.seq (.run [zr 92 (.mv (zt 3)), zr 93 (.bin .neq (zt 92) (.const (.int .i32 95))), za 2 (zt 93)])
  .ret)
def rc107_6 : RC := (.seq (.block 0 (.loop rc107_4))
  rc107_5)
def rc107_7 : RC := (.seq (.run [za 5 (.const (.bool false))])
  (.seq (.seq (.run [zr 21 (.mv (zt 0)), zr 22 (.lens (zt 21)), zr 23 (.bin .geq (zt 22) (zi 2)), zr 24 (.mv (zt 23)), zg 25 24 true (.mv (zt 0)), zg 26 24 true (.ixs (zt 25) (zi 0)), zg 27 24 true (.bin .eql (zt 26) (.const (.int .u8 48))), zr 28 (.pick (zt 24) (zt 27) (.const (.bool false))), zr 29 (.mv (zt 28)), zg 30 29 true (.mv (zt 0)), zg 31 29 true (.ixs (zt 30) (zi 1)), ⟨(some 32), (some (29, true)), (.c (.fn 106 [(zt 31)])), []⟩, zg 33 29 true (.bin .eql (zt 32) (.const (.int .u8 98))), zg 34 29 true (.mv (zt 33)), zg 35 34 false (.mv (zt 0)), zg 36 34 false (.ixs (zt 35) (zi 1)), ⟨(some 37), (some (34, false)), (.c (.fn 106 [(zt 36)])), []⟩, zg 38 34 false (.bin .eql (zt 37) (.const (.int .u8 111))), zg 39 29 true (.pick (zt 34) (.const (.bool true)) (zt 38)), zg 40 29 true (.mv (zt 39)), zg 41 40 false (.mv (zt 0)), zg 42 40 false (.ixs (zt 41) (zi 1)), ⟨(some 43), (some (40, false)), (.c (.fn 106 [(zt 42)])), []⟩, zg 44 40 false (.bin .eql (zt 43) (.const (.int .u8 120))), zg 45 29 true (.pick (zt 40) (.const (.bool true)) (zt 44)), zr 46 (.pick (zt 29) (zt 45) (.const (.bool false)))])
  (.cond (zt 46)
  (.seq (.run [za 4 (zi 2)])
  (.seq (.run [za 3 (.const (.int .i32 48))])
  (.run [zr 47 (.mv (zt 0)), zr 48 (.ixs (zt 47) (zi 1)), zc 49 106 [(zt 48)], zr 50 (.bin .eql (zt 49) (.const (.int .u8 120))), za 5 (zt 50)])))
  .skip))
  rc107_6))
def rc107 : RC := (.seq (.run [za 2 (.const (.bool false))])
  (.seq (.run [za 3 (.const (.int .i32 94))])
  (.seq (.run [za 4 (zi 0)])
  (.seq (.seq (.run [zr 6 (.mv (zt 0)), zr 7 (.lens (zt 6)), zr 8 (.bin .geq (zt 7) (zi 1)), zr 9 (.mv (zt 8)), zg 10 9 true (.mv (zt 0)), zg 11 9 true (.ixs (zt 10) (zi 0)), zg 12 9 true (.bin .eql (zt 11) (.const (.int .u8 45))), zg 13 9 true (.mv (zt 12)), zg 14 13 false (.mv (zt 0)), zg 15 13 false (.ixs (zt 14) (zi 0)), zg 16 13 false (.bin .eql (zt 15) (.const (.int .u8 43))), zg 17 9 true (.pick (zt 13) (.const (.bool true)) (zt 16)), zr 18 (.pick (zt 9) (zt 17) (.const (.bool false)))])
  (.cond (zt 18)
  (.run [zr 19 (.mv (zt 0)), zr 20 (.sls (zt 19) (some (zi 1)) none), za 0 (zt 20)])
  .skip))
  rc107_7))))
def ce107 : List (Nat × List Nat × List Nat) := []
def ro107 : List RO := [(.mv (zt 2))]
theorem ok107 : okFn Tryz.prog 107 94 ce107 = some (rc107, ro107) := by kernel_rfl
def rc108 : RC := (.seq (.run [za 4 (.const (.pointer none))])
  (.seq (.run [zr 5 (.mv (zt 0)), zr 6 (.mv (zt 1)), zr 8 (.ld (.global 4)), ⟨(some 7), none, (.c (.fn 121 [(zt 6)])), [(8, none, .ld (.global 4))]⟩, zr 9 (.bld [(.string ⟨#[]⟩), (.string ⟨#[]⟩), .nilIface] [(0, 1, (zt 5)), (1, 1, (zt 7)), (2, 1, (zt 8))]), zf 10 (.bx 178 (zt 9)), za 4 (zt 10)])
  .ret))
def ce108 : List (Nat × List Nat × List Nat) := [(1, [0, 1, 3, 2, 4, 5, 6], [0, 0, 2, 0, 15, 31, 63])]
def ro108 : List RO := [(.mv (zt 4))]
theorem ok108 : okFn Tryz.prog 108 11 ce108 = some (rc108, ro108) := by kernel_rfl
def rc109 : RC := (.seq (.run [za 4 (.const (.pointer none))])
  (.seq (.run [zr 5 (.mv (zt 0)), zr 6 (.mv (zt 1)), zr 8 (.ld (.global 5)), ⟨(some 7), none, (.c (.fn 121 [(zt 6)])), [(8, none, .ld (.global 5))]⟩, zr 9 (.bld [(.string ⟨#[]⟩), (.string ⟨#[]⟩), .nilIface] [(0, 1, (zt 5)), (1, 1, (zt 7)), (2, 1, (zt 8))]), zf 10 (.bx 178 (zt 9)), za 4 (zt 10)])
  .ret))
def ce109 : List (Nat × List Nat × List Nat) := [(1, [0, 1, 3, 2, 4, 5, 6], [0, 0, 2, 0, 15, 31, 63])]
def ro109 : List RO := [(.mv (zt 4))]
theorem ok109 : okFn Tryz.prog 109 11 ce109 = some (rc109, ro109) := by kernel_rfl
def rc110 : RC := (.seq (.run [za 6 (.const (.pointer none))])
  (.seq (.run [zr 7 (.mv (zt 0)), zr 8 (.mv (zt 1)), zc 9 121 [(zt 8)], zr 10 (.mv (zt 2)), zc 11 123 [(zt 10)], zr 12 (.bin .add (.const (.string ⟨#[105, 110, 118, 97, 108, 105, 100, 32, 98, 97, 115, 101, 32]⟩)) (zt 11)), zc 13 122 [(zt 12)], zr 14 (.bld [(.string ⟨#[]⟩), (.string ⟨#[]⟩), .nilIface] [(0, 1, (zt 7)), (1, 1, (zt 9)), (2, 1, (zt 13))]), zf 15 (.bx 178 (zt 14)), za 6 (zt 15)])
  .ret))
def ce110 : List (Nat × List Nat × List Nat) := []
def ro110 : List RO := [(.mv (zt 6))]
theorem ok110 : okFn Tryz.prog 110 16 ce110 = some (rc110, ro110) := by kernel_rfl
def rc111 : RC := (.seq (.run [za 6 (.const (.pointer none))])
  (.seq (.run [zr 7 (.mv (zt 0)), zr 8 (.mv (zt 1)), zc 9 121 [(zt 8)], zr 10 (.mv (zt 2)), zc 11 123 [(zt 10)], zr 12 (.bin .add (.const (.string ⟨#[105, 110, 118, 97, 108, 105, 100, 32, 98, 105, 116, 32, 115, 105, 122, 101, 32]⟩)) (zt 11)), zc 13 122 [(zt 12)], zr 14 (.bld [(.string ⟨#[]⟩), (.string ⟨#[]⟩), .nilIface] [(0, 1, (zt 7)), (1, 1, (zt 9)), (2, 1, (zt 13))]), zf 15 (.bx 178 (zt 14)), za 6 (zt 15)])
  .ret))
def ce111 : List (Nat × List Nat × List Nat) := []
def ro111 : List RO := [(.mv (zt 6))]
theorem ok111 : okFn Tryz.prog 111 16 ce111 = some (rc111, ro111) := by kernel_rfl
def rc115_0 : RC := (.seq (.run [zr 72 (.mv (zt 11)), za 6 (zt 72), za 7 (.const .nilIface)])
  .ret)
def rc115_1 : RC := (.seq (.run [zr 67 (.mv (zt 9)), zr 68 (.cvi .i64 (zt 67)), za 11 (zt 68)])
  (.seq (.seq (.run [zr 69 (.mv (zt 8))])
  (.cond (zt 69)
  (.run [zr 70 (.mv (zt 11)), zr 71 (.neg (zt 70)), za 11 (zt 71)])
  .skip))
  rc115_0))
def rc115_2 : RC := (.seq (.seq (.run [zr 57 (.mv (zt 8)), zr 58 (.mv (zt 57)), zg 59 58 true (.mv (zt 9)), zg 60 58 true (.mv (zt 10)), zg 61 58 true (.bin .gtr (zt 59) (zt 60)), zr 62 (.pick (zt 58) (zt 61) (.const (.bool false)))])
  (.cond (zt 62)
  (.seq (.run [zr 63 (.mv (zt 10)), zr 64 (.cvi .i64 (zt 63)), zr 65 (.neg (zt 64)), zr 66 (.mki 168 (zi 1)), za 6 (zt 65), za 7 (zt 66)])
  .ret)
  .skip))
  rc115_1)
def rc115_3 : RC := (.seq (.run [zr 42 (.mv (zt 2)), zr 43 (.bin .sub (zt 42) (zi 1)), zr 44 (.cvi .u64 (zt 43)), zr 45 (.bin .shl (.const (.int .u64 1)) (zt 44)), za 10 (zt 45)])
  (.seq (.seq (.run [zr 46 (.mv (zt 8)), zr 47 (.not (zt 46)), zr 48 (.mv (zt 47)), zg 49 48 true (.mv (zt 9)), zg 50 48 true (.mv (zt 10)), zg 51 48 true (.bin .geq (zt 49) (zt 50)), zr 52 (.pick (zt 48) (zt 51) (.const (.bool false)))])
  (.cond (zt 52)
  (.seq (.run [zr 53 (.mv (zt 10)), zr 54 (.bin .sub (zt 53) (.const (.int .u64 1))), zr 55 (.cvi .i64 (zt 54)), zr 56 (.mki 168 (zi 1)), za 6 (zt 55), za 7 (zt 56)])
  .ret)
  .skip))
  rc115_2))
def rc115_4 : RC := (.seq (.seq (.run [zr 40 (.mv (zt 2)), zr 41 (.bin .eql (zt 40) (zi 0))])
  (.cond (zt 41)
  (.run [za 2 (zi 64)])
  .skip))
  rc115_3)
def rc115_5 : RC := (.seq (.run [za 9 (.const (.int .u64 0))])
  (.seq (.run [zr 26 (.mv (zt 0)), zr 27 (.mv (zt 1)), zr 28 (.mv (zt 2)), zc 29 91 [(zt 26), (zt 27), (zt 28)], zr 25 (.mv (zt 29)), zr 30 (.ext 0 (zt 25)), zr 31 (.ext 1 (zt 25)), za 9 (zt 30), za 7 (zt 31)])
  (.seq (.seq (.run [zr 32 (.mv (zt 7)), zr 33 (.eq true (.iface []) (zt 32) (.const .nilIface)), zr 34 (.mv (zt 33)), zg 35 34 true (.mv (zt 7)), zg 36 34 true (.mki 168 (zi 1)), zg 37 34 true (.ieq true [2, 3, 5, 6, 12, 21, 22, 41, 50, 85, 100, 108, 110, 168, 198, 199, 201, 202] (zt 35) (zt 36)), zr 38 (.pick (zt 34) (zt 37) (.const (.bool false)))])
  (.cond (zt 38)
  (.seq (.run [zr 39 (.mv (zt 7)), za 6 (zi 0), za 7 (zt 39)])
  .ret)
  .skip))
  rc115_4)))
def rc115_6 : RC := (.seq (.run [za 8 (.const (.bool false))])
  (.seq (.seq (.run [zr 15 (.mv (zt 0)), zr 16 (.ixs (zt 15) (zi 0))])
  (.block 0 (.seq (.run [zr 18 (.bin .eql (zt 16) (.const (.int .u8 43))), za 17 (zt 18)])
  (.cond (zt 17)
  (.run [zr 19 (.mv (zt 0)), zr 20 (.sls (zt 19) (some (zi 1)) none), za 0 (zt 20)])
  (.seq (.run [zr 22 (.bin .eql (zt 16) (.const (.int .u8 45))), za 21 (zt 22)])
  (.cond (zt 21)
  (.seq (.run [zr 23 (.mv (zt 0)), zr 24 (.sls (zt 23) (some (zi 1)) none), za 0 (zt 24)])
  (.run [za 8 (.const (.bool true))]))
  .skip))))))
  rc115_5))
def rc115 : RC := (.seq (.run [za 6 (zi 0), za 7 (.const .nilIface)])
  (.seq (.seq (.run [zr 12 (.mv (zt 0)), zr 13 (.bin .eql (zt 12) (.const (.string ⟨#[]⟩)))])
  (.cond (zt 13)
  (.seq (.run [zr 14 (.mki 168 (zi 2)), za 6 (zi 0), za 7 (zt 14)])
  .ret)
  .skip))
  rc115_6))
def ce115 : List (Nat × List Nat × List Nat) := []
def ro115 : List RO := [(.mv (zt 6)), (.mv (zt 7))]
theorem ok115 : okFn Tryz.prog 115 73 ce115 = some (rc115, ro115) := by kernel_rfl
def rc116_0 : RC := (.seq (.run [zr 99 (.mv (zt 5)), zr 100 (.bin .and (zt 99) (.const (.int .u8 7))), zr 101 (.cvi .i32 (zt 100)), zr 102 (.bin .shl (zt 101) (.const (.int .u64 18))), zr 103 (.mv (zt 10)), zr 104 (.bin .and (zt 103) (.const (.int .u8 63))), zr 105 (.cvi .i32 (zt 104)), zr 106 (.bin .shl (zt 105) (.const (.int .u64 12))), zr 107 (.bin .or (zt 102) (zt 106)), zr 108 (.mv (zt 11)), zr 109 (.bin .and (zt 108) (.const (.int .u8 63))), zr 110 (.cvi .i32 (zt 109)), zr 111 (.bin .shl (zt 110) (.const (.int .u64 6))), zr 112 (.bin .or (zt 107) (zt 111)), zr 113 (.mv (zt 12)), zr 114 (.bin .and (zt 113) (.const (.int .u8 63))), zr 115 (.cvi .i32 (zt 114)), zr 116 (.bin .or (zt 112) (zt 115)), za 2 (zt 116), za 3 (zi 4)])
  .ret)
def rc116_1 : RC := (.seq (.run [zr 91 (.mv (zt 0)), zr 92 (.ixs (zt 91) (zi 3)), za 12 (zt 92)])
  (.seq (.seq (.run [zr 93 (.mv (zt 12)), zr 94 (.bin .lss (zt 93) (.const (.int .u8 128))), zr 95 (.mv (zt 94)), zg 96 95 false (.mv (zt 12)), zg 97 95 false (.bin .lss (.const (.int .u8 191)) (zt 96)), zr 98 (.pick (zt 95) (.const (.bool true)) (zt 97))])
  (.cond (zt 98)
  (.seq (.run [za 2 (.const (.int .i32 65533)), za 3 (zi 1)])
  .ret)
  .skip))
  rc116_0))
def rc116_2 : RC := (.seq (.seq (.run [zr 76 (.mv (zt 8)), zr 77 (.bin .leq (zt 76) (zi 3))])
  (.cond (zt 77)
  (.seq (.run [zr 78 (.mv (zt 5)), zr 79 (.bin .and (zt 78) (.const (.int .u8 15))), zr 80 (.cvi .i32 (zt 79)), zr 81 (.bin .shl (zt 80) (.const (.int .u64 12))), zr 82 (.mv (zt 10)), zr 83 (.bin .and (zt 82) (.const (.int .u8 63))), zr 84 (.cvi .i32 (zt 83)), zr 85 (.bin .shl (zt 84) (.const (.int .u64 6))), zr 86 (.bin .or (zt 81) (zt 85)), zr 87 (.mv (zt 11)), zr 88 (.bin .and (zt 87) (.const (.int .u8 63))), zr 89 (.cvi .i32 (zt 88)), zr 90 (.bin .or (zt 86) (zt 89)), za 2 (zt 90), za 3 (zi 3)])
  .ret)
  .skip))
  rc116_1)
def rc116_3 : RC := (.seq (.run [zr 68 (.mv (zt 0)), zr 69 (.ixs (zt 68) (zi 2)), za 11 (zt 69)])
  (.seq (.seq (.run [zr 70 (.mv (zt 11)), zr 71 (.bin .lss (zt 70) (.const (.int .u8 128))), zr 72 (.mv (zt 71)), zg 73 72 false (.mv (zt 11)), zg 74 72 false (.bin .lss (.const (.int .u8 191)) (zt 73)), zr 75 (.pick (zt 72) (.const (.bool true)) (zt 74))])
  (.cond (zt 75)
  (.seq (.run [za 2 (.const (.int .i32 65533)), za 3 (zi 1)])
  .ret)
  .skip))
  rc116_2))
def rc116_4 : RC := (.seq (.seq (.run [zr 58 (.mv (zt 8)), zr 59 (.bin .leq (zt 58) (zi 2))])
  (.cond (zt 59)
  (.seq (.run [zr 60 (.mv (zt 5)), zr 61 (.bin .and (zt 60) (.const (.int .u8 31))), zr 62 (.cvi .i32 (zt 61)), zr 63 (.bin .shl (zt 62) (.const (.int .u64 6))), zr 64 (.mv (zt 10)), zr 65 (.bin .and (zt 64) (.const (.int .u8 63))), zr 66 (.cvi .i32 (zt 65)), zr 67 (.bin .or (zt 63) (zt 66)), za 2 (zt 67), za 3 (zi 2)])
  .ret)
  .skip))
  rc116_3)
def rc116_5 : RC := (.seq (.run [zr 46 (.mv (zt 0)), zr 47 (.ixs (zt 46) (zi 1)), za 10 (zt 47)])
  (.seq (.seq (.run [zr 48 (.mv (zt 10)), zr 49 (.fa 0 (zt 9)), zr 50 (.ld (zt 49)), zr 51 (.bin .lss (zt 48) (zt 50)), zr 52 (.mv (zt 51)), zg 53 52 false (.fa 1 (zt 9)), zg 54 52 false (.ld (zt 53)), zg 55 52 false (.mv (zt 10)), zg 56 52 false (.bin .lss (zt 54) (zt 55)), zr 57 (.pick (zt 52) (.const (.bool true)) (zt 56))])
  (.cond (zt 57)
  (.seq (.run [za 2 (.const (.int .i32 65533)), za 3 (zi 1)])
  .ret)
  .skip))
  rc116_4))
def rc116_6 : RC := (.seq (.run [zr 36 (.mv (zt 6)), zr 37 (.bin .and (zt 36) (.const (.int .u8 7))), zr 38 (.cvi .i64 (zt 37)), za 8 (zt 38)])
  (.seq (.run [zr 39 (.mv (zt 6)), zr 40 (.bin .shr (zt 39) (.const (.int .u64 4))), zr 41 (.iaa 16 2 (.global 7) (zt 40)), zr 42 (.ldn 2 (zt 41)), zf 9 (.al [(.int .u8 0), (.int .u8 0)] 183), ze (.st 2 (zt 9) (zt 42))])
  (.seq (.seq (.run [zr 43 (.mv (zt 4)), zr 44 (.mv (zt 8)), zr 45 (.bin .lss (zt 43) (zt 44))])
  (.cond (zt 45)
  (.seq (.run [za 2 (.const (.int .i32 65533)), za 3 (zi 1)])
  .ret)
  .skip))
  rc116_5)))
def rc116_7 : RC := (.seq (.run [zr 17 (.mv (zt 0)), zr 18 (.ixs (zt 17) (zi 0)), za 5 (zt 18)])
  (.seq (.run [zr 19 (.mv (zt 5)), zr 20 (.iaa 256 1 (.global 6) (zt 19)), zr 21 (.ld (zt 20)), za 6 (zt 21)])
  (.seq (.seq (.run [zr 22 (.mv (zt 6)), zr 23 (.bin .geq (zt 22) (.const (.int .u8 240)))])
  (.cond (zt 23)
  (.seq (.run [zr 24 (.mv (zt 6)), zr 25 (.cvi .i32 (zt 24)), zr 26 (.bin .shl (zt 25) (.const (.int .u64 31))), zr 27 (.bin .shr (zt 26) (.const (.int .u64 31))), za 7 (zt 27)])
  (.seq (.run [zr 28 (.mv (zt 0)), zr 29 (.ixs (zt 28) (zi 0)), zr 30 (.cvi .i32 (zt 29)), zr 31 (.mv (zt 7)), zr 32 (.bin .andNot (zt 30) (zt 31)), zr 33 (.mv (zt 7)), zr 34 (.bin .and (.const (.int .i32 65533)) (zt 33)), zr 35 (.bin .or (zt 32) (zt 34)), za 2 (zt 35), za 3 (zi 1)])
  .ret))
  .skip))
  rc116_6)))
def rc116 : RC := (.seq (.run [za 2 (.const (.int .i32 0)), za 3 (zi 0)])
  (.seq (.run [zr 13 (.mv (zt 0)), zr 14 (.lens (zt 13)), za 4 (zt 14)])
  (.seq (.seq (.run [zr 15 (.mv (zt 4)), zr 16 (.bin .lss (zt 15) (zi 1))])
  (.cond (zt 16)
  (.seq (.run [za 2 (.const (.int .i32 65533)), za 3 (zi 0)])
  .ret)
  .skip))
  rc116_7)))
def ce116 : List (Nat × List Nat × List Nat) := []
def ro116 : List RO := [(.mv (zt 2)), (.mv (zt 3))]
theorem ok116 : okFn Tryz.prog 116 117 ce116 = some (rc116, ro116) := by kernel_rfl
def rc117 : RC := (.seq (.run [za 4 (zi 0)])
  (.seq (.run [zr 5 (.mv (zt 0)), zr 6 (.mv (zt 1)), zc 7 126 [(zt 5), (zt 6)], za 4 (zt 7)])
  .ret))
def ce117 : List (Nat × List Nat × List Nat) := []
def ro117 : List RO := [(.mv (zt 4))]
theorem ok117 : okFn Tryz.prog 117 8 ce117 = some (rc117, ro117) := by kernel_rfl
def rc119 : RC := (.seq (.run [za 2 (zi 0)])
  (.seq (.run [zr 3 (.mv (zt 0)), zr 4 (.bin .add (zt 3) (zi 16)), zr 5 (.bin .quo (zt 4) (zi 8)), za 2 (zt 5)])
  .ret))
def ce119 : List (Nat × List Nat × List Nat) := []
def ro119 : List RO := [(.mv (zt 2))]
theorem ok119 : okFn Tryz.prog 119 6 ce119 = some (rc119, ro119) := by kernel_rfl
def rc120_0 : RC := (.seq (.block 1 (.run [zr 23 (.mv (zt 8)), zr 24 (.bin .mul (zt 23) (.const (.int .u32 16777619))), zr 25 (.mv (zt 0)), zr 26 (.mv (zt 9)), zr 27 (.ixs (zt 25) (zt 26)), zr 28 (.cvi .u32 (zt 27)), zr 29 (.bin .add (zt 24) (zt 28)), za 8 (zt 29)]))
  (.run [zr 21 (.mv (zt 9)), zr 22 (.bin .add (zt 21) (zi 1)), za 9 (zt 22)]))
def rc120_1 : RC := (.seq (.seq (.run [zr 18 (.mv (zt 9)), zr 19 (.mv (zt 7)), zr 20 (.bin .lss (zt 18) (zt 19))])
  (.cond (zt 20)
  .skip
  (.exit 0)))
  rc120_0)
def rc120_2 : RC := (.block 3 (.seq (.run [zr 45 (.mv (zt 8)), zr 46 (.bin .mul (zt 45) (.const (.int .u32 16777619))), za 8 (zt 46)])
  (.seq (.run [zr 47 (.mv (zt 8)), zr 48 (.mv (zt 0)), zr 49 (.mv (zt 10)), zr 50 (.ixs (zt 48) (zt 49)), zr 51 (.cvi .u32 (zt 50)), zr 52 (.bin .add (zt 47) (zt 51)), za 8 (zt 52)])
  (.seq (.run [zr 53 (.mv (zt 8)), zr 54 (.mv (zt 6)), zr 55 (.mv (zt 0)), zr 56 (.mv (zt 10)), zr 57 (.mv (zt 7)), zr 58 (.bin .sub (zt 56) (zt 57)), zr 59 (.ixs (zt 55) (zt 58)), zr 60 (.cvi .u32 (zt 59)), zr 61 (.bin .mul (zt 54) (zt 60)), zr 62 (.bin .sub (zt 53) (zt 61)), za 8 (zt 62)])
  (.seq (.run [zr 63 (.mv (zt 10)), zr 64 (.bin .add (zt 63) (zi 1)), za 10 (zt 64)])
  (.seq (.run [zr 65 (.mv (zt 8)), zr 66 (.mv (zt 5)), zr 67 (.bin .eql (zt 65) (zt 66)), zr 68 (.mv (zt 67)), zg 69 68 true (.mv (zt 0)), zg 70 68 true (.mv (zt 10)), zg 71 68 true (.mv (zt 7)), zg 72 68 true (.bin .sub (zt 70) (zt 71)), zg 73 68 true (.mv (zt 10)), zg 74 68 true (.sls (zt 69) (some (zt 72)) (some (zt 73))), zg 75 68 true (.mv (zt 1)), zg 76 68 true (.bin .eql (zt 74) (zt 75)), zr 77 (.pick (zt 68) (zt 76) (.const (.bool false)))])
  (.cond (zt 77)
  (.seq (.run [zr 78 (.mv (zt 10)), zr 79 (.mv (zt 7)), zr 80 (.bin .sub (zt 78) (zt 79)), za 4 (zt 80)])
  .ret)
  .skip)))))))
def rc120_3 : RC := (.seq (.seq (.run [zr 41 (.mv (zt 10)), zr 42 (.mv (zt 0)), zr 43 (.lens (zt 42)), zr 44 (.bin .lss (zt 41) (zt 43))])
  (.cond (zt 44)
  .skip
  (.exit 2)))
  rc120_2)
def rc120_4 : RC := (.seq (.run [za 4 (zi (-1))])
  .ret)
def rc120_5 : RC := (.seq (.seq (.run [zr 40 (.mv (zt 7)), za 10 (zt 40)])
  (.block 2 (.loop rc120_3)))
  rc120_4)
def rc120_6 : RC := (.seq (.seq (.run [zr 30 (.mv (zt 8)), zr 31 (.mv (zt 5)), zr 32 (.bin .eql (zt 30) (zt 31)), zr 33 (.mv (zt 32)), zg 34 33 true (.mv (zt 0)), zg 35 33 true (.mv (zt 7)), zg 36 33 true (.sls (zt 34) none (some (zt 35))), zg 37 33 true (.mv (zt 1)), zg 38 33 true (.bin .eql (zt 36) (zt 37)), zr 39 (.pick (zt 33) (zt 38) (.const (.bool false)))])
  (.cond (zt 39)
  (.seq (.run [za 4 (zi 0)])
  .ret)
  .skip))
  rc120_5)
def rc120 : RC := (.seq (.run [za 4 (zi 0)])
  (.seq (.run [zr 12 (.mv (zt 1)), zc 13 127 [(zt 12)], zr 11 (.mv (zt 13)), zr 14 (.ext 0 (zt 11)), zr 15 (.ext 1 (zt 11)), za 5 (zt 14), za 6 (zt 15)])
  (.seq (.run [zr 16 (.mv (zt 1)), zr 17 (.lens (zt 16)), za 7 (zt 17)])
  (.seq (.run [za 8 (.const (.int .u32 0))])
  (.seq (.seq (.run [za 9 (zi 0)])
  (.block 0 (.loop rc120_1)))
  rc120_6)))))
def ce120 : List (Nat × List Nat × List Nat) := []
def ro120 : List RO := [(.mv (zt 4))]
theorem ok120 : okFn Tryz.prog 120 81 ce120 = some (rc120, ro120) := by kernel_rfl
def rc121_0 : RC := (.seq (.run [zr 7 (.mv (zt 0)), zr 8 (.lens (zt 7)), zf 9 (.mks 5 1 (.int .u8 0) (zt 8) (zt 8)), za 3 (zt 9)])
  (.seq (.run [zr 10 (.mv (zt 3)), zr 11 (.mv (zt 0)), zf 12 (.cpy 1 (zt 10) (zt 11))])
  (.seq (.run [zr 13 (.mv (zt 3)), zr 14 (.ia 1 (zt 13) (zi 0)), zr 15 (.mv (zt 3)), zr 16 (.lenl (zt 15)), zf 17 (.ust 5 (zt 14) (zt 16)), za 2 (zt 17)])
  .ret)))
def rc121 : RC := (.seq (.run [za 2 (.const (.string ⟨#[]⟩))])
  (.seq (.seq (.run [zr 4 (.mv (zt 0)), zr 5 (.lens (zt 4)), zr 6 (.bin .eql (zt 5) (zi 0))])
  (.cond (zt 6)
  (.seq (.run [za 2 (.const (.string ⟨#[]⟩))])
  .ret)
  .skip))
  rc121_0))
def ce121 : List (Nat × List Nat × List Nat) := []
def ro121 : List RO := [(.mv (zt 2))]
theorem ok121 : okFn Tryz.prog 121 18 ce121 = some (rc121, ro121) := by kernel_rfl
def rc122 : RC := (.seq (.run [za 2 (.const .nilIface)])
  (.seq (.run [zr 3 (.mv (zt 0)), zr 4 (.bld [(.string ⟨#[]⟩)] [(0, 1, (zt 3))]), zf 5 (.bx 190 (zt 4)), zr 6 (.mki 188 (zt 5)), za 2 (zt 6)])
  .ret))
def ce122 : List (Nat × List Nat × List Nat) := []
def ro122 : List RO := [(.mv (zt 2))]
theorem ok122 : okFn Tryz.prog 122 7 ce122 = some (rc122, ro122) := by kernel_rfl
def rc123 : RC := (.seq (.run [za 2 (.const (.string ⟨#[]⟩))])
  (.seq (.run [zr 3 (.mv (zt 0)), zc 4 128 [(zt 3)], za 2 (zt 4)])
  .ret))
def ce123 : List (Nat × List Nat × List Nat) := []
def ro123 : List RO := [(.mv (zt 2))]
theorem ok123 : okFn Tryz.prog 123 5 ce123 = some (rc123, ro123) := by kernel_rfl
def rc127_0 : RC := (.seq (.block 1 (.run [zr 15 (.mv (zt 4)), zr 16 (.bin .mul (zt 15) (.const (.int .u32 16777619))), zr 17 (.mv (zt 0)), zr 18 (.mv (zt 5)), zr 19 (.ixs (zt 17) (zt 18)), zr 20 (.cvi .u32 (zt 19)), zr 21 (.bin .add (zt 16) (zt 20)), za 4 (zt 21)]))
  (.run [zr 13 (.mv (zt 5)), zr 14 (.bin .add (zt 13) (zi 1)), za 5 (zt 14)]))
def rc127_1 : RC := (.seq (.seq (.run [zr 9 (.mv (zt 5)), zr 10 (.mv (zt 0)), zr 11 (.lens (zt 10)), zr 12 (.bin .lss (zt 9) (zt 11))])
  (.cond (zt 12)
  .skip
  (.exit 0)))
  rc127_0)
def rc127_2 : RC := (.seq (.block 3 (.seq (.seq (.run [zr 28 (.mv (zt 8)), zr 29 (.bin .and (zt 28) (zi 1)), zr 30 (.bin .neq (zt 29) (zi 0))])
  (.cond (zt 30)
  (.run [zr 31 (.mv (zt 6)), zr 32 (.mv (zt 7)), zr 33 (.bin .mul (zt 31) (zt 32)), za 6 (zt 33)])
  .skip))
  (.run [zr 34 (.mv (zt 7)), zr 35 (.mv (zt 7)), zr 36 (.bin .mul (zt 34) (zt 35)), za 7 (zt 36)])))
  (.run [zr 26 (.mv (zt 8)), zr 27 (.bin .shr (zt 26) (.const (.int .u64 1))), za 8 (zt 27)]))
def rc127_3 : RC := (.seq (.seq (.run [zr 24 (.mv (zt 8)), zr 25 (.bin .gtr (zt 24) (zi 0))])
  (.cond (zt 25)
  .skip
  (.exit 2)))
  rc127_2)
def rc127_4 : RC := (.seq (.run [zr 37 (.mv (zt 4)), zr 38 (.mv (zt 6)), za 2 (zt 37), za 3 (zt 38)])
  .ret)
def rc127_5 : RC := (.seq (.run [za 6 (.const (.int .u32 1)), za 7 (.const (.int .u32 16777619))])
  (.seq (.seq (.run [zr 22 (.mv (zt 0)), zr 23 (.lens (zt 22)), za 8 (zt 23)])
  (.block 2 (.loop rc127_3)))
  rc127_4))
def rc127 : RC := (.seq (.run [za 2 (.const (.int .u32 0)), za 3 (.const (.int .u32 0))])
  (.seq (.run [za 4 (.const (.int .u32 0))])
  (.seq (.seq (.run [za 5 (zi 0)])
  (.block 0 (.loop rc127_1)))
  rc127_5)))
def ce127 : List (Nat × List Nat × List Nat) := []
def ro127 : List RO := [(.mv (zt 2)), (.mv (zt 3))]
theorem ok127 : okFn Tryz.prog 127 39 ce127 = some (rc127, ro127) := by kernel_rfl
def rc128 : RC := (.seq (.run [za 2 (.const (.string ⟨#[]⟩))])
  (.seq (.run [zr 3 (.mv (zt 0)), zc 4 46 [(zt 3), (zi 10)], za 2 (zt 4)])
  .ret))
def ce128 : List (Nat × List Nat × List Nat) := []
def ro128 : List RO := [(.mv (zt 2))]
theorem ok128 : okFn Tryz.prog 128 5 ce128 = some (rc128, ro128) := by kernel_rfl
end Go.Proofs.YtiapjjgmmiifmaaGreatDoor.Ab

set_option linter.unusedVariables false
set_option linter.unusedSimpArgs false
namespace Go.Proofs.YtiapjjgmmiifmaaGreatDoor.Ab
open Go Go.RowKit
set_option maxHeartbeats 4000000
set_option maxRecDepth 100000
noncomputable def st1 (r : Nat) : Nat := Bool.rec (Nat.xor (Nat.mod (Nat.mul r 2) 65536) 4129) (Nat.mod (Nat.mul r 2) 65536) (Nat.beq (Nat.land r 32768) 0)
noncomputable def itS : Nat → Nat → Nat
  | 0, r => r
  | j + 1, r => st1 (itS j r)
noncomputable def stepN (r : Nat) : Nat := itS 8 r
noncomputable def crcN (l : List UInt8) : Nat := l.foldl (fun r c => stepN (Nat.xor r (Nat.mul c.toNat 256))) 0
def chkN (l : List UInt8) : Nat := l.foldl (fun r c => (r + c.toNat) % 256) 0
theorem getL1 {L : List Value} {k : Nat} {x : Value} (h : L[k]? = some x) : ∀ hk : k < L.length, L[k]'hk = x := fun hk => by
  rw [List.getElem?_eq_getElem hk] at h
  exact Option.some.inj h
theorem w16 {z : Nat} (h : z < 65536) : IntKind.u16.wrap (z : Int) = (z : Int) := by
  simp only [IntKind.wrap, IntKind.bits, IntKind.signed]
  simp
  omega
theorem w8 {z : Nat} (h : z < 256) : IntKind.u8.wrap (z : Int) = (z : Int) := by
  simp only [IntKind.wrap, IntKind.bits, IntKind.signed]
  simp
  omega
theorem xor16 {a b : Nat} (ha : a < 65536) (hb : b < 65536) : Nat.xor a b < 65536 := Nat.xor_lt_two_pow (n := 16) ha hb
theorem st1_lt {r : Nat} (h : r < 65536) : st1 r < 65536 := by
  have h1 : Nat.mod (Nat.mul r 2) 65536 < 65536 := Nat.mod_lt _ (by omega)
  unfold st1
  cases Nat.beq (Nat.land r 32768) 0
  · exact xor16 h1 (by omega)
  · exact h1
theorem itS_lt {r : Nat} (h : r < 65536) : ∀ j, itS j r < 65536
  | 0 => h
  | j + 1 => st1_lt (itS_lt h j)
theorem stepN_lt {r : Nat} (h : r < 65536) : stepN r < 65536 := itS_lt h 8
theorem d_xor {a b : Nat} (ha : a < 65536) (hb : b < 65536) : dBin .xor (.int .u16 (a : Int)) (.int .u16 (b : Int)) = some (.int .u16 ((Nat.xor a b : Nat) : Int)) := by
  have h := binI_eq (op := .xor) (k := .u16) (a := Int.ofNat a) (b := Int.ofNat b) (v := .int .u16 (IntKind.u16.wrap (Int.ofNat (Nat.xor a b)))) (by
    simp only [binI, bitI]
    rw [blt_true.2 (show a < kTop .u16 by simpa [kTop] using ha), blt_true.2 (show b < kTop .u16 by simpa [kTop] using hb)]
    simp only [wrapF_eq])
  have w : IntKind.u16.wrap (Int.ofNat (Nat.xor a b)) = ((Nat.xor a b : Nat) : Int) := w16 (xor16 ha hb)
  rw [w] at h
  exact h
theorem d_and {a b : Nat} (ha : a < 65536) (hb : b < 65536) : dBin .and (.int .u16 (a : Int)) (.int .u16 (b : Int)) = some (.int .u16 ((Nat.land a b : Nat) : Int)) := by
  have h := binI_eq (op := .and) (k := .u16) (a := Int.ofNat a) (b := Int.ofNat b) (v := .int .u16 (IntKind.u16.wrap (Int.ofNat (Nat.land a b)))) (by
    simp only [binI, bitI]
    rw [blt_true.2 (show a < kTop .u16 by simpa [kTop] using ha), blt_true.2 (show b < kTop .u16 by simpa [kTop] using hb)]
    simp only [wrapF_eq])
  have w : IntKind.u16.wrap (Int.ofNat (Nat.land a b)) = ((Nat.land a b : Nat) : Int) := w16 (Nat.and_lt_two_pow (n := 16) _ hb)
  rw [w] at h
  exact h
theorem d_sh1 {a : Nat} : dBin .shl (.int .u16 (a : Int)) (.int .u64 1) = some (.int .u16 ((Nat.mod (Nat.mul a 2) 65536 : Nat) : Int)) := by
  have : IntKind.u16.wrap ((a : Int) * 2) = ((Nat.mod (Nat.mul a 2) 65536 : Nat) : Int) := by
    show _ = ((a * 2 % 65536 : Nat) : Int)
    simp only [IntKind.wrap, IntKind.bits, IntKind.signed]
    simp
  simp [dBin, IntKind.bits, this]
theorem d_sh8 {a : Nat} (ha : a < 256) : dBin .shl (.int .u16 (a : Int)) (.int .u64 8) = some (.int .u16 ((Nat.mul a 256 : Nat) : Int)) := by
  have : IntKind.u16.wrap ((a : Int) * 256) = ((Nat.mul a 256 : Nat) : Int) := by
    have := w16 (z := a * 256) (by omega)
    show _ = ((a * 256 : Nat) : Int)
    rw [← this]; simp
  simp [dBin, IntKind.bits, this]
theorem c_sstep {w0 : World} {m : Mem} {r : Nat} {Q : Value → Mem → Prop} (hr : r < 65536) (hq : Q (.int .u16 (stepN r : Nat)) m) : AbC Tryz.prog w0 83 [.int .u16 (r : Int)] m Q := by
  refine AbC_fn ok83 (by simp) ?_
  simp -implicitDefEqProofs (disch := first | assumption | (simp only [wnA]; done) | (simp only [wnA]; omega) | omega | fail) [rc83, ro83, wkA, retV, stabOk, dC, ev, fillD, pickCells, putAt, bnd, slD, List.getElem?_cons_zero, List.getElem?_cons_succ, dR_sl, Mem.cell, Mem.row, wmA]
  refine LoopW_of (fun k ts m' => ∃ j, j + k = 8 ∧ m' = m ∧ ts 0 = .int .u16 (itS j r : Nat) ∧ ts 4 = .int .i64 (j : Nat)) 8 ?_ ?_
  · exact ⟨0, by omega, rfl, by simp [frA_at, itS], by simp⟩
  · rintro k ts m1 K ⟨j, hj, rfl, t0, t4⟩ hK
    by_cases hjl : j < 8
    · have hlt := itS_lt hr j
      have q1 : dBin .and (.int .u16 (itS j r : Nat)) (.int .u16 32768) = some (.int .u16 ((Nat.land (itS j r) 32768 : Nat) : Int)) := d_and hlt (b := 32768) (by omega)
      have q2 := d_sh1 (a := itS j r)
      have q3 := d_xor (a := Nat.mod (Nat.mul (itS j r) 2) 65536) (Nat.mod_lt _ (by omega)) (b := 4129) (by omega)
      have hn : ∀ ts' : Fr, ts' 0 = .int .u16 (st1 (itS j r) : Nat) → ts' 4 = .int .i64 ((j : Int) + 1) → K ts' m1 := fun ts' r0 r4 => hK (k - 1) ts' m1 (by omega) ⟨j + 1, by omega, rfl, r0, by rw [r4]; rfl⟩
      have hj8 : (j : Int) < 8 := by omega
      have w1 : IntKind.i64.wrap ((j : Int) + 1) = (j : Int) + 1 := w64 (by omega)
      unfold st1 at hn
      generalize itS j r = z at *
      have q4 : (((Nat.land z 32768 : Nat) : Int) != 0) = !Nat.beq (Nat.land z 32768) 0 := by
        cases hb : Nat.beq (Nat.land z 32768) 0 with
        | true => have := Nat.eq_of_beq_eq_true hb; rw [this]; rfl
        | false => have := Nat.ne_of_beq_eq_false hb; simpa using this
      generalize Nat.land z 32768 = z1 at *
      generalize Nat.mod (Nat.mul z 2) 65536 = z2 at *
      cases hb : Nat.beq z1 0 with
      | true =>
        rw [hb] at q4 hn
        have q4 : ((z1 : Int) != 0) = false := q4
        have hn : ∀ ts' : Fr, ts' 0 = .int .u16 (z2 : Nat) → ts' 4 = .int .i64 ((j : Int) + 1) → K ts' m1 := hn
        simp -implicitDefEqProofs (disch := first | assumption | (simp only [wnA]; done) | (simp only [wnA]; omega) | omega | fail) [rc83_1, rc83_0, wkA, retV, stabOk, dC, ev, fillD, pickCells, putAt, bnd, slD, List.getElem?_cons_zero, List.getElem?_cons_succ, dR_sl, Mem.cell, Mem.row, wmA, t0, t4, hj8, q1, q2, q4, w1]
        refine hn _ ?_ ?_
        · first | rfl | assumption | simp
        · first | rfl | assumption | simp
      | false =>
        rw [hb] at q4 hn
        have q4 : ((z1 : Int) != 0) = true := q4
        have hn : ∀ ts' : Fr, ts' 0 = .int .u16 (Nat.xor z2 4129 : Nat) → ts' 4 = .int .i64 ((j : Int) + 1) → K ts' m1 := hn
        have q3 : dBin .xor (.int .u16 (z2 : Int)) (.int .u16 4129) = some (.int .u16 ((Nat.xor z2 4129 : Nat) : Int)) := q3
        generalize Nat.xor z2 4129 = z3 at *
        simp only [dBin_xor] at q3
        have q3 : xorK .u16 (z2 : Int) 4129 = (z3 : Int) := by injection q3 with q3; injection q3
        simp -implicitDefEqProofs (disch := first | assumption | (simp only [wnA]; done) | (simp only [wnA]; omega) | omega | fail) [rc83_1, rc83_0, wkA, retV, stabOk, dC, ev, fillD, pickCells, putAt, bnd, slD, List.getElem?_cons_zero, List.getElem?_cons_succ, dR_sl, Mem.cell, Mem.row, wmA, t0, t4, hj8, q1, q2, q4, q3, w1]
        refine hn _ ?_ ?_
        · first | rfl | assumption | simp
        · first | rfl | assumption | simp
    · have hjj : j = 8 := by omega
      subst hjj
      simp -implicitDefEqProofs (disch := first | assumption | (simp only [wnA]; done) | (simp only [wnA]; omega) | omega | fail) [rc83_1, rc83_2, wkA, retV, stabOk, dC, ev, fillD, pickCells, putAt, bnd, slD, List.getElem?_cons_zero, List.getElem?_cons_succ, dR_sl, Mem.cell, Mem.row, wmA, t0, t4]
      exact hq
theorem crcN_take {l : List UInt8} {j : Nat} (hj : j < l.length) : (l.take (j + 1)).foldl (fun r c => stepN (Nat.xor r (Nat.mul c.toNat 256))) 0 = stepN (Nat.xor ((l.take j).foldl (fun r c => stepN (Nat.xor r (Nat.mul c.toNat 256))) 0) (Nat.mul (l[j]).toNat 256)) := by
  rw [List.take_add_one, List.getElem?_eq_getElem hj, List.foldl_append]; rfl
theorem foldlt : ∀ (l : List UInt8) {r : Nat}, r < 65536 → l.foldl (fun r c => stepN (Nat.xor r (Nat.mul c.toNat 256))) r < 65536
  | [], _, h => h
  | c :: l, r, h => foldlt l (stepN_lt (xor16 h (by have := c.toNat_lt; show c.toNat * 256 < 65536; omega)))
theorem crcN_lt (l : List UInt8) : crcN l < 65536 := foldlt l (by omega)
theorem chkN_take {l : List UInt8} {j : Nat} (hj : j < l.length) : chkN (l.take (j + 1)) = (chkN (l.take j) + (l[j]).toNat) % 256 := by
  unfold chkN
  rw [List.take_add_one, List.getElem?_eq_getElem hj, List.foldl_append]; rfl
theorem chkN_lt (l : List UInt8) : chkN l < 256 := by
  have : ∀ (l : List UInt8) {r : Nat}, r < 256 → l.foldl (fun r c => (r + c.toNat) % 256) r < 256 := by
    intro l
    induction l with
    | nil => intro r h; exact h
    | cons c l ih => intro r h; exact ih (Nat.mod_lt _ (by omega))
  exact this l (by omega)
theorem c_Crc {w0 : World} {m : Mem} {v : Value} {l : List UInt8} {Q : Value → Mem → Prop} (hv : SlR m 1 v (l.map byteV) l.length) (hL : l.length ≤ maxLen) (hq : Q (.int .u16 (crcN l : Nat)) m) : AbC Tryz.prog w0 71 [v] m Q := by
  refine AbC_fn ok71 (by simp) ?_
  have hlen : lenV v = l.length := hv.lenV
  have hL : l.length ≤ 9223372036854775807 := by unfold maxLen at hL; omega
  simp -implicitDefEqProofs (disch := first | assumption | (simp only [wnA]; done) | (simp only [wnA]; omega) | omega | fail) [rc71, ro71, wkA, retV, stabOk, dC, ev, fillD, pickCells, putAt, bnd, slD, List.getElem?_cons_zero, List.getElem?_cons_succ, dR_sl, Mem.cell, Mem.row, wmA, hv.slen]
  refine LoopW_of (fun k ts m' => ∃ j, j + k = l.length ∧ m' = m ∧ ts 6 = v ∧ ts 7 = .int .i64 (l.length : Nat) ∧ ts 8 = .int .i64 (j : Nat) ∧ ts 3 = .int .u16 ((l.take j).foldl (fun r c => stepN (Nat.xor r (Nat.mul c.toNat 256))) 0 : Nat)) l.length ?_ ?_
  · exact ⟨0, by omega, rfl, by simp [frA_at], by simp, by simp, by simp⟩
  · rintro k ts m1 K ⟨j, hj, rfl, t6, t7, t8, t3⟩ hK
    by_cases hjl : j < l.length
    · have hj8 : (j : Int) < (l.length : Nat) := by omega
      obtain ⟨i, o, L, e1, e2, e3, e4, e5⟩ := hv.at hjl
      have hc : L[o + j * 1]? = some (.int .u8 ((l[j]).toNat : Int)) := by
        have := e5 0 (by omega)
        simpa [hjl, byteV] using this
      have hc := getL1 (by rw [Nat.mul_one] at hc; exact hc : L[o + j]? = _)
      have hidx : sidx 1 v (.int .i64 (j : Int)) = some (.pointer (some ⟨i, o + j * 1, none⟩)) := by rw [e1]; exact sidx_at hjl
      have w1 : IntKind.i64.wrap ((j : Int) + 1) = (j : Int) + 1 := w64 (by omega)
      have hcl := (l[j]).toNat_lt
      have q1 := d_sh8 (a := (l[j]).toNat) (by omega)
      have hr : (l.take j).foldl (fun r c => stepN (Nat.xor r (Nat.mul c.toNat 256))) 0 < 65536 := foldlt _ (by omega)
      have hn := crcN_take hjl
      have hx : Nat.mul (l[j]).toNat 256 < 65536 := by show (l[j]).toNat * 256 < 65536; omega
      have q2 := d_xor hr hx
      have wc : IntKind.u16.wrap ((l[j]).toNat : Int) = ((l[j]).toNat : Int) := w16 (by omega)
      generalize Nat.mul (l[j]).toNat 256 = x at *
      generalize (l.take j).foldl (fun r c => stepN (Nat.xor r (Nat.mul c.toNat 256))) 0 = r at *
      have hs := xor16 hr hx
      simp only [dBin_xor] at q2
      have q2 : xorK .u16 (r : Int) (x : Int) = (Nat.xor r x : Nat) := by injection q2 with q2; injection q2
      generalize Nat.xor r x = y at *
      simp -implicitDefEqProofs (disch := first | assumption | (simp only [wnA]; done) | (simp only [wnA]; omega) | omega | fail) [rc71_1, rc71_0, wkA, retV, stabOk, dC, ev, fillD, pickCells, putAt, bnd, slD, List.getElem?_cons_zero, List.getElem?_cons_succ, dR_sl, Mem.cell, Mem.row, wmA, t6, t7, t8, t3, hj8, hidx, e2, hc, q1, q2, w1, wc]
      refine c_sstep hs ?_
      simp -implicitDefEqProofs (disch := first | assumption | (simp only [wnA]; done) | (simp only [wnA]; omega) | omega | fail) [wkA, retV, stabOk, dC, ev, fillD, pickCells, putAt, bnd, slD, List.getElem?_cons_zero, List.getElem?_cons_succ, dR_sl, Mem.cell, Mem.row, wmA, t8, w1]
      refine hK (k - 1) _ _ (by omega) ⟨j + 1, by omega, rfl, by first | exact t6 | simp [t6], by first | exact t7 | simp [t7], by first | rfl | simp, ?_⟩
      rw [hn]; first | rfl | simp
    · have hjj : j = l.length := by omega
      subst hjj
      have hj8 : ¬ ((l.length : Nat) : Int) < (l.length : Nat) := by omega
      rw [List.take_length] at t3
      simp -implicitDefEqProofs (disch := first | assumption | (simp only [wnA]; done) | (simp only [wnA]; omega) | omega | fail) [rc71_1, rc71_2, wkA, retV, stabOk, dC, ev, fillD, pickCells, putAt, bnd, slD, List.getElem?_cons_zero, List.getElem?_cons_succ, dR_sl, Mem.cell, Mem.row, wmA, t3, t7, t8, hj8]
      exact hq
theorem c_Chk {w0 : World} {m : Mem} {v : Value} {l : List UInt8} {Q : Value → Mem → Prop} (hv : SlR m 1 v (l.map byteV) l.length) (hL : l.length ≤ maxLen) (hq : Q (.int .u8 (chkN l : Nat)) m) : AbC Tryz.prog w0 70 [v] m Q := by
  refine AbC_fn ok70 (by simp) ?_
  have hlen : lenV v = l.length := hv.lenV
  have hL : l.length ≤ 9223372036854775807 := by unfold maxLen at hL; omega
  simp -implicitDefEqProofs (disch := first | assumption | (simp only [wnA]; done) | (simp only [wnA]; omega) | omega | fail) [rc70, ro70, wkA, retV, stabOk, dC, ev, fillD, pickCells, putAt, bnd, slD, List.getElem?_cons_zero, List.getElem?_cons_succ, dR_sl, Mem.cell, Mem.row, wmA, hv.slen]
  refine LoopW_of (fun k ts m' => ∃ j, j + k = l.length ∧ m' = m ∧ ts 6 = v ∧ ts 7 = .int .i64 (l.length : Nat) ∧ ts 8 = .int .i64 (j : Nat) ∧ ts 3 = .int .u8 (chkN (l.take j) : Nat)) l.length ?_ ?_
  · exact ⟨0, by omega, rfl, by simp [frA_at], by simp, by simp, by simp [chkN]⟩
  · rintro k ts m1 K ⟨j, hj, rfl, t6, t7, t8, t3⟩ hK
    by_cases hjl : j < l.length
    · have hj8 : (j : Int) < (l.length : Nat) := by omega
      obtain ⟨i, o, L, e1, e2, e3, e4, e5⟩ := hv.at hjl
      have hc : L[o + j * 1]? = some (.int .u8 ((l[j]).toNat : Int)) := by
        have := e5 0 (by omega)
        simpa [hjl, byteV] using this
      have hc := getL1 (by rw [Nat.mul_one] at hc; exact hc : L[o + j]? = _)
      have hidx : sidx 1 v (.int .i64 (j : Int)) = some (.pointer (some ⟨i, o + j * 1, none⟩)) := by rw [e1]; exact sidx_at hjl
      have w1 : IntKind.i64.wrap ((j : Int) + 1) = (j : Int) + 1 := w64 (by omega)
      have hcl := (l[j]).toNat_lt
      have wc : IntKind.u8.wrap ((chkN (l.take j) : Int) + ((l[j]).toNat : Int)) = (((chkN (l.take j) + (l[j]).toNat) % 256 : Nat) : Int) := by
        simp only [IntKind.wrap, IntKind.bits, IntKind.signed]
        simp
      have hn := chkN_take hjl
      generalize (chkN (l.take j) + (l[j]).toNat) % 256 = r2 at *
      generalize chkN (l.take j) = r at *
      simp -implicitDefEqProofs (disch := first | assumption | (simp only [wnA]; done) | (simp only [wnA]; omega) | omega | fail) [rc70_1, rc70_0, wkA, retV, stabOk, dC, ev, fillD, pickCells, putAt, bnd, slD, List.getElem?_cons_zero, List.getElem?_cons_succ, dR_sl, Mem.cell, Mem.row, wmA, t6, t7, t8, t3, hj8, hidx, e2, hc, w1, wc]
      refine hK (k - 1) _ _ (by omega) ⟨j + 1, by omega, rfl, by first | exact t6 | simp [t6], by first | exact t7 | simp [t7], by first | rfl | simp, ?_⟩
      rw [hn]; first | rfl | simp
    · have hjj : j = l.length := by omega
      subst hjj
      have hj8 : ¬ ((l.length : Nat) : Int) < (l.length : Nat) := by omega
      rw [List.take_length] at t3
      simp -implicitDefEqProofs (disch := first | assumption | (simp only [wnA]; done) | (simp only [wnA]; omega) | omega | fail) [rc70_1, rc70_2, wkA, retV, stabOk, dC, ev, fillD, pickCells, putAt, bnd, slD, List.getElem?_cons_zero, List.getElem?_cons_succ, dR_sl, Mem.cell, Mem.row, wmA, t3, t7, t8, hj8]
      exact hq
end Go.Proofs.YtiapjjgmmiifmaaGreatDoor.Ab

set_option linter.unusedVariables false
set_option linter.unusedSimpArgs false
namespace Go.Proofs.YtiapjjgmmiifmaaGreatDoor.Ab
open Go Go.RowKit
set_option maxHeartbeats 4000000
set_option maxRecDepth 100000
/-- What lies in X is kept. -/
def Keeps (X : Nat → Prop) (m m' : Mem) : Prop := m.next ≤ m'.next ∧ ∀ i, i < m.next → X i → m'.get i = m.get i
theorem Keeps.refl (X : Nat → Prop) (m : Mem) : Keeps X m m := ⟨Nat.le_refl _, fun _ _ _ => rfl⟩
theorem Keeps.trans {X : Nat → Prop} {a b c : Mem} (h : Keeps X a b) (k : Keeps X b c) : Keeps X a c :=
  ⟨Nat.le_trans h.1 k.1, fun i hi hn => by rw [k.2 i (Nat.lt_of_lt_of_le hi h.1) hn, h.2 i hi hn]⟩
theorem Keeps.mono {X Y : Nat → Prop} {a b : Mem} (h : Keeps X a b) (hy : ∀ i, i < a.next → Y i → X i) : Keeps Y a b := ⟨h.1, fun i hi hn => h.2 i hi (hy i hi hn)⟩
theorem Old.keeps {X : Nat → Prop} {a b : Mem} (h : Old a b) : Keeps X a b := ⟨h.1, fun i hi _ => h.2 i hi⟩
theorem Keeps.set {X : Nat → Prop} {a b : Mem} (h : Keeps X a b) {i : Nat} (hi : i < a.next → ¬ X i) (e : Ent) : Keeps X a (b.set i e) := ⟨h.1, fun k hk hx => by rw [Mem.set_other _ _ (fun e => hi (by omega) (by rw [← e]; exact hx)), h.2 k hk hx]⟩
theorem Keeps.push {X : Nat → Prop} {a b : Mem} (h : Keeps X a b) (e : Ent) : Keeps X a (b.push e) := ⟨Nat.le_trans h.1 (by simp), fun k hk hx => by rw [Mem.push_old _ _ (Nat.lt_of_lt_of_le hk h.1), h.2 k hk hx]⟩
theorem Keeps.kill {X : Nat → Prop} {a b : Mem} (h : Keeps X a b) {ob : Option Nat} (hi : ∀ i, ob = some i → i < a.next → ¬ X i) : Keeps X a (b.kill ob) := ⟨h.1, fun k hk hx => by rw [Mem.kill_other _ (fun e => hi k e hk hx), h.2 k hk hx]⟩
/-- A slice that is only read, in blocks of X. -/
structure RdV (X : Nat → Prop) (m : Mem) (sz : Nat) (v : Value) (cs : List Value) (n : Nat) : Prop where
  sl : SlR m sz v cs n
  bl : ∀ b, blk v = some b → b < m.next ∧ X b
theorem RdV.keep {X : Nat → Prop} {m m' : Mem} {sz n : Nat} {v : Value} {cs : List Value} (h : RdV X m sz v cs n) (k : Keeps X m m') : RdV X m' sz v cs n :=
  ⟨h.sl.keep fun b hb => k.2 b (h.bl b hb).1 (h.bl b hb).2, fun b hb => ⟨Nat.lt_of_lt_of_le (h.bl b hb).1 k.1, (h.bl b hb).2⟩⟩
theorem RdV.mono {X Y : Nat → Prop} {m : Mem} {sz n : Nat} {v : Value} {cs : List Value} (h : RdV X m sz v cs n) (hy : ∀ i, i < m.next → X i → Y i) : RdV Y m sz v cs n :=
  ⟨h.sl, fun b hb => ⟨(h.bl b hb).1, hy b (h.bl b hb).1 (h.bl b hb).2⟩⟩
theorem SK_stK {P : Program} {w0 : World} {ts : Fr} {m : Mem} {R : Value → Mem → Prop} {n i o : Nat} {p x : Operand} {cs cs' vs : List Value} {e : TypeId} (hp : ev ts p = .pointer (some ⟨i, o, none⟩)) (hm : m.get i = .own cs e) (hv : cellsV (ev ts x) = vs) (h1 : o + n ≤ cs.length) (h2 : vs.length = n) (h3 : vs.all oneC = true)
    (hM : putAt cs o vs = cs') (hR : R undef (m.set i (.own cs' e))) : SK P w0 (.e (.st n p x)) ts m R := by
  subst hv
  subst hM
  exact SK_st hp hm h1 h2 h3 hR
end Go.Proofs.YtiapjjgmmiifmaaGreatDoor.Ab

set_option maxRecDepth 20000
namespace Go.Proofs.YtiapjjgmmiifmaaGreatDoor.Ab
open Go Go.RowKit
noncomputable def tab : List TE := [⟨9, 50, rc9, ro9⟩, ⟨10, 8, rc10, ro10⟩, ⟨11, 19, rc11, ro11⟩, ⟨12, 54, rc12, ro12⟩, ⟨15, 8, rc15, ro15⟩, ⟨16, 11, rc16, ro16⟩, ⟨17, 19, rc17, ro17⟩, ⟨28, 21, rc28, ro28⟩, ⟨29, 45, rc29, ro29⟩, ⟨30, 45, rc30, ro30⟩, ⟨31, 8, rc31, ro31⟩, ⟨32, 38, rc32, ro32⟩, ⟨33, 13, rc33, ro33⟩, ⟨34, 8, rc34, ro34⟩, ⟨35, 2, rc35, ro35⟩, ⟨45, 101, rc45, ro45⟩, ⟨46, 54, rc46, ro46⟩, ⟨47, 32, rc47, ro47⟩, ⟨60, 8, rc60, ro60⟩, ⟨61, 30, rc61, ro61⟩, ⟨62, 8, rc62, ro62⟩, ⟨63, 21, rc63, ro63⟩, ⟨64, 46, rc64, ro64⟩, ⟨65, 21, rc65, ro65⟩, ⟨66, 15, rc66, ro66⟩, ⟨67, 15, rc67, ro67⟩, ⟨68, 167, rc68, ro68⟩, ⟨69, 102, rc69, ro69⟩, ⟨76, 66, rc76, ro76⟩, ⟨77, 26, rc77, ro77⟩, ⟨78, 6, rc78, ro78⟩, ⟨79, 25, rc79, ro79⟩, ⟨80, 4, rc80, ro80⟩, ⟨81, 8, rc81, ro81⟩, ⟨82, 8, rc82, ro82⟩, ⟨88, 50, rc88, ro88⟩, ⟨89, 34, rc89, ro89⟩, ⟨90, 8, rc90, ro90⟩, ⟨91, 172, rc91, ro91⟩, ⟨92, 43, rc92, ro92⟩, ⟨93, 14, rc93, ro93⟩, ⟨94, 14, rc94, ro94⟩, ⟨102, 10, rc102, ro102⟩, ⟨103, 19, rc103, ro103⟩, ⟨105, 143, rc105, ro105⟩, ⟨106, 5, rc106, ro106⟩, ⟨107, 94, rc107, ro107⟩, ⟨108, 11, rc108, ro108⟩, ⟨109, 11, rc109, ro109⟩, ⟨110, 16, rc110, ro110⟩, ⟨111, 16, rc111, ro111⟩, ⟨116, 117, rc116, ro116⟩, ⟨117, 8, rc117, ro117⟩, ⟨119, 6, rc119, ro119⟩, ⟨120, 81, rc120, ro120⟩, ⟨121, 18, rc121, ro121⟩, ⟨122, 7, rc122, ro122⟩, ⟨123, 5, rc123, ro123⟩, ⟨127, 39, rc127, ro127⟩, ⟨128, 5, rc128, ro128⟩]
theorem tab_ok : TOk Tryz.prog tab := by
  intro t ht
  simp only [tab, List.mem_cons, List.mem_nil_iff, or_false] at ht
  rcases ht with rfl | rfl | rfl | rfl | rfl | rfl | rfl | rfl | rfl | rfl | rfl | rfl | rfl | rfl | rfl | rfl | rfl | rfl | rfl | rfl | rfl | rfl | rfl | rfl | rfl | rfl | rfl | rfl | rfl | rfl | rfl | rfl | rfl | rfl | rfl | rfl | rfl | rfl | rfl | rfl | rfl | rfl | rfl | rfl | rfl | rfl | rfl | rfl | rfl | rfl | rfl | rfl | rfl | rfl | rfl | rfl | rfl | rfl | rfl | rfl
  · exact ⟨_, ok9⟩
  · exact ⟨_, ok10⟩
  · exact ⟨_, ok11⟩
  · exact ⟨_, ok12⟩
  · exact ⟨_, ok15⟩
  · exact ⟨_, ok16⟩
  · exact ⟨_, ok17⟩
  · exact ⟨_, ok28⟩
  · exact ⟨_, ok29⟩
  · exact ⟨_, ok30⟩
  · exact ⟨_, ok31⟩
  · exact ⟨_, ok32⟩
  · exact ⟨_, ok33⟩
  · exact ⟨_, ok34⟩
  · exact ⟨_, ok35⟩
  · exact ⟨_, ok45⟩
  · exact ⟨_, ok46⟩
  · exact ⟨_, ok47⟩
  · exact ⟨_, ok60⟩
  · exact ⟨_, ok61⟩
  · exact ⟨_, ok62⟩
  · exact ⟨_, ok63⟩
  · exact ⟨_, ok64⟩
  · exact ⟨_, ok65⟩
  · exact ⟨_, ok66⟩
  · exact ⟨_, ok67⟩
  · exact ⟨_, ok68⟩
  · exact ⟨_, ok69⟩
  · exact ⟨_, ok76⟩
  · exact ⟨_, ok77⟩
  · exact ⟨_, ok78⟩
  · exact ⟨_, ok79⟩
  · exact ⟨_, ok80⟩
  · exact ⟨_, ok81⟩
  · exact ⟨_, ok82⟩
  · exact ⟨_, ok88⟩
  · exact ⟨_, ok89⟩
  · exact ⟨_, ok90⟩
  · exact ⟨_, ok91⟩
  · exact ⟨_, ok92⟩
  · exact ⟨_, ok93⟩
  · exact ⟨_, ok94⟩
  · exact ⟨_, ok102⟩
  · exact ⟨_, ok103⟩
  · exact ⟨_, ok105⟩
  · exact ⟨_, ok106⟩
  · exact ⟨_, ok107⟩
  · exact ⟨_, ok108⟩
  · exact ⟨_, ok109⟩
  · exact ⟨_, ok110⟩
  · exact ⟨_, ok111⟩
  · exact ⟨_, ok116⟩
  · exact ⟨_, ok117⟩
  · exact ⟨_, ok119⟩
  · exact ⟨_, ok120⟩
  · exact ⟨_, ok121⟩
  · exact ⟨_, ok122⟩
  · exact ⟨_, ok123⟩
  · exact ⟨_, ok127⟩
  · exact ⟨_, ok128⟩
theorem fnd126 : Extern.findNext Tryz.f126 = none := by kernel_rfl
theorem xis126 : xIs Tryz.prog 126 .idx := ⟨Tryz.f126, _, Tryz.func126, by kernel_rfl, by kernel_rfl, fnd126, (by kernel_rfl : Extern.find Tryz.f126 = some Extern.BytealgIndexByte.indexByte), rfl⟩
theorem fnd104 : Extern.findNext Tryz.f104 = none := by kernel_rfl
theorem xis104 : xIs Tryz.prog 104 .cnt := ⟨Tryz.f104, _, Tryz.func104, by kernel_rfl, by kernel_rfl, fnd104, (by kernel_rfl : Extern.find Tryz.f104 = some Extern.BytealgCount.count), rfl⟩
def xs : List (FuncId × XK) := [(126, .idx), (104, .cnt)]
theorem xs_all : ∀ x ∈ xs, xIs Tryz.prog x.1 x.2 := by
  intro x hx
  simp only [xs, List.mem_cons, List.mem_nil_iff, or_false] at hx
  rcases hx with rfl | rfl
  · exact xis126
  · exact xis104
theorem xs_ok : XOk Tryz.prog (xCall xs) := xCall_ok xs_all
end Go.Proofs.YtiapjjgmmiifmaaGreatDoor.Ab

set_option linter.unusedVariables false
set_option linter.unusedSimpArgs false
set_option maxHeartbeats 4000000
set_option maxRecDepth 100000
namespace Go.Proofs.YtiapjjgmmiifmaaGreatDoor.Ab
open Go Go.RowKit
def z32 : List Int := [0, 1, 28, 2, 29, 14, 24, 3, 30, 22, 20, 15, 25, 17, 4, 8, 31, 27, 13, 23, 21, 19, 16, 7, 26, 12, 18, 6, 11, 5, 10, 9]
def z64 : List Int := [0, 1, 56, 2, 57, 49, 28, 3, 61, 58, 42, 50, 38, 29, 17, 4, 62, 47, 59, 36, 45, 43, 51, 22, 53, 39, 33, 30, 24, 18, 12, 5, 63, 55, 48, 27, 60, 41, 37, 16, 46, 35, 44, 21, 52, 32, 23, 11, 54, 26, 40, 15, 34, 20, 31, 10, 25, 14, 19, 9, 13, 8, 7, 6]
def z10 : List Int := [1, 10, 100, 1000, 10000, 100000, 1000000, 10000000, 100000000, 1000000000, 10000000000, 100000000000, 1000000000000, 10000000000000, 100000000000000, 1000000000000000, 10000000000000000, 100000000000000000, 1000000000000000000, 10000000000000000000]
def e32 : List Value := z32.map fun z => .int .u8 z
def e64 : List Value := z64.map fun z => .int .u8 z
def e10 : List Value := z10.map fun z => .int .u64 z
def gs0 : List (Nat × List Value) := [(1, e32), (2, e64), (0, e10)]
def L0 : LM := ⟨8, (.n (.n (.n (.n (.n (.ro e10) (.ro e32) (.ro e64) .dead .dead .dead .dead .dead) .e .e .e .e .e .e .e) .e .e .e .e .e .e .e) .e .e .e .e .e .e .e) .e .e .e .e .e .e .e)⟩
theorem globals_size : Tryz.prog.globals.size = L0.n := by kernel_rfl
theorem L0_get (i : Nat) : L0.get i = entOf gs0 i := by
  by_cases h : i < 8
  · have : i = 0 ∨ i = 1 ∨ i = 2 ∨ i = 3 ∨ i = 4 ∨ i = 5 ∨ i = 6 ∨ i = 7 := by omega
    rcases this with rfl | rfl | rfl | rfl | rfl | rfl | rfl | rfl <;> rfl
  · rw [LM.get_ge h]
    have n1 : (i == 1) = false := by simp; omega
    have n2 : (i == 2) = false := by simp; omega
    have n0 : (i == 0) = false := by simp; omega
    simp [entOf, gs0, List.lookup_cons, n1, n2, n0]
theorem laid_ok : laidB Tryz.prog gs0 = true := by kernel_rfl
theorem L0_part : partB L0 = true := by kernel_rfl
theorem laidIn {W : World} {l : List (String × DataW Unit)} (h : laidMet Tryz.prog l W) (h1 : ("math/bits.deBruijn32tab", Lib.tabData .u8 z32) ∈ l) (h2 : ("math/bits.deBruijn64tab", Lib.tabData .u8 z64) ∈ l) (h3 : ("internal/strconv.uint64pow10", Lib.tabData .u64 z10) ∈ l) : LaidIn Tryz.prog W gs0 where
  cell := by
    intro x hx
    simp only [gs0, List.mem_cons, List.mem_nil_iff, or_false] at hx
    rcases hx with rfl | rfl | rfl
    · exact laid_tab h h1 (by kernel_rfl) (by kernel_rfl) Tryz.underlying173 Tryz.underlying5 (by kernel_rfl) (by kernel_rfl)
    · exact laid_tab h h2 (by kernel_rfl) (by kernel_rfl) Tryz.underlying174 Tryz.underlying5 (by kernel_rfl) (by kernel_rfl)
    · exact laid_tab h h3 (by kernel_rfl) (by kernel_rfl) Tryz.underlying140 Tryz.underlying85 (by kernel_rfl) (by kernel_rfl)
theorem awk : outIs (.bool true) (callE tab (xCall xs) Tryz.prog 3000 9 [] L0) = true := by kernel_rfl
theorem c_awake {w0 : World} {m : Mem} {Q : Value → Mem → Prop} (hp : Part L0 m) (hq : Q (.bool true) m) : AbC Tryz.prog w0 9 [] m Q :=
  AbC_run 3000 tab_ok xs_ok hp (Nat.le_of_eq globals_size) rfl awk rfl hq
end Go.Proofs.YtiapjjgmmiifmaaGreatDoor.Ab

set_option linter.unusedVariables false
set_option linter.unusedSimpArgs false
namespace Go.Proofs.YtiapjjgmmiifmaaGreatDoor.Ab
open Go Go.RowKit
set_option maxHeartbeats 4000000
set_option maxRecDepth 100000
theorem closed {w0 : World} {m : Mem} {f : FuncId} {args : List Value} {v : Value} {Q : Value → Mem → Prop} {n : Nat} (hp : Part L0 m) (ha : args.all (plainV 6) = true) (h : outIs v (callE tab (xCall xs) Tryz.prog n f args L0) = true) (hv : plainV 6 v = true) (hq : Q v m) : AbC Tryz.prog w0 f args m Q :=
  AbC_run n tab_ok xs_ok hp (Nat.le_of_eq globals_size) ha h hv hq
/-- The sign of a digit. -/
def digC (d : Nat) : UInt8 := if d < 10 then UInt8.ofNat (48 + d) else UInt8.ofNat (87 + d)
/-- A number's digits in a base. -/
def digs (b n : Nat) : List UInt8 := if h : n < b ∨ b < 2 then [digC n] else digs b (n / b) ++ [digC (n % b)]
termination_by n
decreasing_by exact Nat.div_lt_self (by omega) (by omega)
theorem digs_lt {b n : Nat} (h : n < b) : digs b n = [digC n] := by rw [digs, dif_pos (.inl h)]
theorem digs_ge {b n : Nat} (hb : 2 ≤ b) (h : b ≤ n) : digs b n = digs b (n / b) ++ [digC (n % b)] := by rw [digs, dif_neg (by omega)]
theorem digs_pos (b n : Nat) : 1 ≤ (digs b n).length := by
  rw [digs]; split <;> simp
theorem digs_len {b : Nat} (hb : 2 ≤ b) : ∀ (L n : Nat), n < b ^ L → (digs b n).length ≤ max L 1
  | 0, n, h => by
    have : n < b := by simp at h; omega
    rw [digs_lt this]; simp
  | L + 1, n, h => by
    by_cases hn : n < b
    · rw [digs_lt hn]; simp
    · rw [digs_ge hb (by omega)]
      have h1 : n / b < b ^ L := by
        rw [Nat.div_lt_iff_lt_mul (by omega)]
        rw [Nat.pow_succ] at h; exact h
      have := digs_len hb L (n / b) h1
      simp only [List.length_append, List.length_cons, List.length_nil]
      by_cases hL : L = 0
      · subst hL
        exfalso
        simp at h; omega
      · omega
theorem digs_64 {b n : Nat} (hb : 8 ≤ b) (h : n < 18446744073709551616) : (digs b n).length ≤ 22 := by
  have h1 : (8 : Nat) ^ 22 ≤ b ^ 22 := Nat.pow_le_pow_left hb 22
  have h2 : (8 : Nat) ^ 22 = 73786976294838206464 := by decide
  have := digs_len (show 2 ≤ b by omega) 22 n (by omega)
  simpa using this
def digitsS : ByteArray := ⟨#[48, 49, 50, 51, 52, 53, 54, 55, 56, 57, 97, 98, 99, 100, 101, 102, 103, 104, 105, 106, 107, 108, 109, 110, 111, 112, 113, 114, 115, 116, 117, 118, 119, 120, 121, 122]⟩
theorem digitsS_at : ∀ d : Fin 36, digitsS[d.val]? = some (digC d.val) := by decide +kernel
theorem dAnd {u k : Nat} (hu : u < 18446744073709551616) (hk : k ≤ 63) {z : Int} (hz : z = ((2 ^ k - 1 : Nat) : Int)) : dBin .and (.int .u64 (u : Int)) (.int .u64 z) = some (.int .u64 ((u % 2 ^ k : Nat) : Int)) := by
  subst hz
  have h2 : (2 : Nat) ^ k ≤ 2 ^ 63 := Nat.pow_le_pow_right (by omega) hk
  have hp : 0 < (2 : Nat) ^ k := Nat.pow_pos (by omega)
  have h1 := binI_eq (op := .and) (k := .u64) (a := Int.ofNat u) (b := Int.ofNat (2 ^ k - 1)) (v := .int .u64 (IntKind.u64.wrap (Int.ofNat (Nat.land u (2 ^ k - 1))))) (by
    simp only [binI, bitI]
    rw [blt_true.2 (show u < kTop .u64 by simpa [kTop] using hu), blt_true.2 (show 2 ^ k - 1 < kTop .u64 by simp only [kTop]; omega)]
    simp only [wrapF_eq])
  have h3 : Nat.land u (2 ^ k - 1) = u % 2 ^ k := Nat.and_two_pow_sub_one_eq_mod u k
  have h4 : u % 2 ^ k < 2 ^ k := Nat.mod_lt _ hp
  have h5 : IntKind.u64.wrap (Int.ofNat (u % 2 ^ k)) = ((u % 2 ^ k : Nat) : Int) := by rw [IntWalk.u64_in]; rfl; simp only [Int.ofNat_eq_natCast]; omega
  rw [h3, h5] at h1
  exact h1
theorem dShr {u k : Nat} (hk : k ≤ 63) {z : Int} (hz : z = (k : Int)) : dBin .shr (.int .u64 (u : Int)) (.int .u64 z) = some (.int .u64 ((u / 2 ^ k : Nat) : Int)) := by
  subst hz
  have h1 := shI_eq (op := .shr) (k := .u64) (k' := .u64) (a := Int.ofNat u) (b := Int.ofNat k) (v := .int .u64 (Int.ofNat (Nat.shiftRight u k))) (by
    simp only [shI]
    rw [Nat.ble_eq_true_of_le (show k ≤ kBits .u64 by simp only [kBits]; omega)])
  have h2 : Nat.shiftRight u k = u / 2 ^ k := Nat.shiftRight_eq_div_pow u k
  rw [h2] at h1
  exact h1
/-- The last digit's place: cells with one more written ahead of the rest. -/
theorem putAt_ahead {cs : List Value} {t : List UInt8} {c : UInt8} (hl : cs.length = 65) (ht : t.length < 65) (hd : cs.drop (65 - t.length) = t.map byteV) :
    (putAt cs (65 - t.length - 1) [.int .u8 c.toNat]).length = 65 ∧ (putAt cs (65 - t.length - 1) [.int .u8 c.toNat]).drop (65 - (c :: t).length) = (c :: t).map byteV := by
  have e1 : 65 - (c :: t).length = 65 - t.length - 1 := by simp; omega
  have e2 : 65 - t.length - 1 + 1 = 65 - t.length := by omega
  have h9 : (cs.drop (65 - t.length)).length = t.length := by rw [hd]; simp
  refine ⟨by simp only [putAt, List.length_append, List.length_take, List.length_cons, List.length_nil, Nat.zero_add, e2, h9, hl]; omega, ?_⟩
  rw [e1]
  simp only [putAt, List.length_cons, List.length_nil, Nat.zero_add, e2, hd]
  rw [List.append_assoc, List.drop_append, List.length_take]
  rw [show min (65 - t.length - 1) cs.length = 65 - t.length - 1 from by omega, Nat.sub_self]
  rw [List.drop_eq_nil_of_le (by rw [List.length_take]; omega)]
  simp [byteV]
theorem bytesOf_mapN : ∀ (l : List UInt8), bytesOf (l.map byteV) = some l
  | [] => rfl
  | b :: l => by
    show (bytesOf (l.map byteV)).map (UInt8.ofNat ((b.toNat : Int).toNat) :: ·) = _
    rw [bytesOf_mapN l]
    simp
theorem bstr_tail {m : Mem} {i J : Nat} {e : TypeId} {cs : List Value} {t : List UInt8} (hg : m.get i = .own cs e) (hl : cs.length = 65) (hJ : 65 - t.length = J) (ht : t.length ≤ 65) (hd : cs.drop (65 - t.length) = t.map byteV) :
    bstr m (.slice (some ⟨i, J, none⟩) (65 - J) 1) = some (.string ⟨⟨t⟩⟩) := by
  rw [hJ] at hd
  have h1 : (cs.drop J).take (65 - J) = t.map byteV := by rw [hd]; exact List.take_of_length_le (by simp; omega)
  simp only [bstr, Mem.row_own hg]
  rw [if_pos (by omega), h1]
  simp only [bytesOf_mapN]
/-- What the sign adds. -/
def sgn (neg : Bool) : List UInt8 := if neg then [45] else []
theorem c_fmtTail {w0 : World} {m m1 : Mem} {ts : Fr} {B k a i : Nat} {neg : Bool} {Q : Value → Mem → Prop} {zs : List Value} (hp : Part L0 m1) (ho : Old m m1) (hi : m.next ≤ i) (hi2 : i < m1.next) (hz : m1.get i = .own zs 141) (hzl : zs.length = 65)
    (hB : B = 2 ^ k) (hk : 3 ≤ k ∧ k ≤ 5) (hB2 : 8 ≤ B) (hB3 : B ≤ 32) (ha : a < 18446744073709551616)
    (t1 : ts 1 = .int .u64 (a : Int)) (t2 : ts 2 = .int .i64 (B : Int)) (t3 : ts 3 = .bool neg) (t4 : ts 4 = .bool false) (t10 : ts 10 = .slice none 0 0) (t12 : ts 12 = .pointer (some ⟨i, 0, none⟩)) (t13 : ts 13 = .int .i64 65)
    (h1 : outIs (.bool true) (callE tab (xCall xs) Tryz.prog 50 81 [.int .i64 (B : Int)] L0) = true)
    (h2 : outIs (.int .i64 (k : Int)) (callE tab (xCall xs) Tryz.prog 50 82 [.int .u64 (B : Int)] L0) = true)
    (hq : ∀ m', Old m m' → Q (.tuple ⟨[.slice none 0 0, .string ⟨⟨sgn neg ++ digs B a⟩⟩]⟩) m') :
    AbW Tryz.prog w0 rc69_9 (bodyA ro69 Q) ts m1 := by
  have wB : IntKind.u64.wrap (B : Int) = B := IntWalk.u64_in _ (by omega)
  have wk : IntKind.u64.wrap (k : Int) = k := IntWalk.u64_in _ (by omega)
  have wB1 : IntKind.u64.wrap ((B : Int) - 1) = (B : Int) - 1 := IntWalk.u64_in _ (by omega)
  simp -implicitDefEqProofs (disch := first | assumption | (simp only [wnA]; done) | (simp only [wnA]; omega) | omega | fail) [rc69_9, ro69, wkA, retV, stabOk, dC, ev, fillD, pickCells, putAt, bnd, slD, List.getElem?_cons_zero, List.getElem?_cons_succ, dR.eq_20, Mem.cell, Mem.row, wmA, t2]
  refine closed hp rfl h1 rfl ?_
  simp -implicitDefEqProofs (disch := first | assumption | (simp only [wnA]; done) | (simp only [wnA]; omega) | omega | fail) [wkA, retV, stabOk, dC, ev, fillD, pickCells, putAt, bnd, slD, List.getElem?_cons_zero, List.getElem?_cons_succ, dR.eq_20, Mem.cell, Mem.row, wmA, t2, wB]
  refine closed hp rfl h2 rfl ?_
  simp -implicitDefEqProofs (disch := first | assumption | (simp only [wnA]; done) | (simp only [wnA]; omega) | omega | fail) [wkA, retV, stabOk, dC, ev, fillD, pickCells, putAt, bnd, slD, List.getElem?_cons_zero, List.getElem?_cons_succ, dR.eq_20, Mem.cell, Mem.row, wmA, t2, wB, wk, wB1]
  have hlen := digs_64 hB2 ha
  refine LoopW_of (fun n ts' m' => ∃ (u : Nat) (t : List UInt8) (cs : List Value), u = n ∧ u ≤ a ∧ digs B a = digs B u ++ t ∧ Old m m' ∧ m'.get i = .own cs 141 ∧ cs.length = 65 ∧ cs.drop (65 - t.length) = t.map byteV ∧
      ts' 1 = .int .u64 (u : Int) ∧ ts' 3 = .bool neg ∧ ts' 4 = .bool false ∧ ts' 10 = .slice none 0 0 ∧ ts' 12 = .pointer (some ⟨i, 0, none⟩) ∧ ts' 13 = .int .i64 ((65 - t.length : Nat) : Int) ∧ ts' 14 = .int .u64 (k : Int) ∧ ts' 15 = .int .u64 (B : Int) ∧ ts' 16 = .int .u64 ((B : Int) - 1)) a ?_ ?_
  · exact ⟨a, [], zs, rfl, Nat.le_refl _, by simp, ho, hz, hzl, by simp [hzl], by simp [t1], by simp [t3], by simp [t4], by simp [t10], by simp [t12], by simp [t13], by simp, by simp, by simp⟩
  · rintro n ts' m' K ⟨u, t, cs, rfl, hua, hd, o', g', hl, hdr, s1, s3, s4, s10, s12, s13, s14, s15, s16⟩ hK
    have hdl := congrArg List.length hd
    simp only [List.length_append] at hdl
    have hpos := digs_pos B u
    have htl : t.length < 65 := by omega
    have eI : ((65 - t.length : Nat) : Int) - 1 = ((65 - t.length - 1 : Nat) : Int) := by omega
    have wI : IntKind.i64.wrap (((65 - t.length : Nat) : Int) - 1) = ((65 - t.length - 1 : Nat) : Int) := by rw [eI]; exact w64 (by omega)
    have hin : (0 : Int) ≤ ((65 - t.length - 1 : Nat) : Int) ∧ ((65 - t.length - 1 : Nat) : Int) < 65 := by omega
    have hu64 : u < 18446744073709551616 := by omega
    generalize hJ : 65 - t.length - 1 = J at *
    have hmod : u % B < 36 := Nat.lt_of_lt_of_le (Nat.mod_lt _ (by omega)) (by omega)
    have kA : dBin .and (.int .u64 (u : Int)) (.int .u64 ((B : Int) - 1)) = some (.int .u64 ((u % B : Nat) : Int)) := by
      have := dAnd (u := u) (k := k) hu64 (by omega) (z := (B : Int) - 1) (by rw [hB]; have : 0 < 2 ^ k := Nat.pow_pos (by omega); omega)
      rw [← hB] at this; exact this
    have kS : dBin .shr (.int .u64 (u : Int)) (.int .u64 (k : Int)) = some (.int .u64 ((u / B : Nat) : Int)) := by
      have := dShr (u := u) (k := k) (by omega) (z := (k : Int)) rfl
      rw [← hB] at this; exact this
    have kX := digitsS_at ⟨u % B, hmod⟩
    simp only [digitsS] at kX
    have m0 : (0 : Int) ≤ ((u % B : Nat) : Int) := by omega
    have hcoe : (((u % B : Nat) : Int)).toNat = u % B := Int.toNat_natCast _
    have hJl : J + 1 ≤ cs.length := by omega
    simp -implicitDefEqProofs (disch := first | assumption | (simp only [wnA]; done) | (simp only [wnA]; omega) | omega | fail) [rc69_1, wkA, retV, stabOk, dC, ev, fillD, pickCells, putAt, bnd, slD, List.getElem?_cons_zero, List.getElem?_cons_succ, dR.eq_20, Mem.cell, Mem.row, wmA, s1, s15]
    by_cases hBu : B ≤ u
    · generalize hM : u % B = M at *
      simp -implicitDefEqProofs (disch := first | assumption | (simp only [wnA]; done) | (simp only [wnA]; omega) | omega | fail) [rc69_0, wkA, retV, stabOk, dC, ev, fillD, pickCells, putAt, bnd, slD, List.getElem?_cons_zero, List.getElem?_cons_succ, dR.eq_20, Mem.cell, Mem.row, wmA, s1, s12, s13, s14, s15, s16, hBu, wI, kA, kS, kX, m0, hin]
      refine SK_st (i := i) (o := J) (by simp [wkA, retV, stabOk, dC, ev, fillD, pickCells, putAt, bnd, slD, List.getElem?_cons_zero, List.getElem?_cons_succ, dR.eq_20]) (e := 141) g' (by omega) (by simp [wkA, retV, stabOk, dC, ev, fillD, pickCells, putAt, bnd, slD, List.getElem?_cons_zero, List.getElem?_cons_succ, dR.eq_20]) (by simp [wkA, retV, stabOk, dC, ev, fillD, pickCells, putAt, bnd, slD, List.getElem?_cons_zero, List.getElem?_cons_succ, dR.eq_20, oneC]) ?_
      simp -implicitDefEqProofs (disch := first | assumption | (simp only [wnA]; done) | (simp only [wnA]; omega) | omega | fail) [wkA, retV, stabOk, dC, ev, fillD, pickCells, putAt, bnd, slD, List.getElem?_cons_zero, List.getElem?_cons_succ, dR.eq_20, Mem.cell, Mem.row, wmA, s1, s14, kS]
      have hpa := putAt_ahead (c := digC M) hl htl hdr
      rw [hJ] at hpa
      have hpe : putAt cs J [.int .u8 (digC M).toNat] = cs.take J ++ .int .u8 (digC M).toNat :: cs.drop (J + 1) := by simp [putAt]
      rw [← hpe]
      refine hK (u / B) _ _ (Nat.div_lt_self (by omega) (by omega)) ⟨u / B, digC M :: t, _, rfl, Nat.le_trans (Nat.div_le_self _ _) hua, ?_, o'.set hi _, by simp, hpa.1, hpa.2, by simp, by simp [s3], by simp [s4], by simp [s10], by simp [s12], ?_, by simp [s14], by simp [s15], by simp [s16]⟩
      · rw [hd, digs_ge (by omega) hBu, hM]; simp
      · have : 65 - (digC M :: t).length = J := by simp; omega
        rw [this]; simp
    · have hub : u < 36 := by omega
      have kY := digitsS_at ⟨u, hub⟩
      simp only [digitsS] at kY
      have m1' : (0 : Int) ≤ (u : Int) := by omega
      simp -implicitDefEqProofs (disch := first | assumption | (simp only [wnA]; done) | (simp only [wnA]; omega) | omega | fail) [rc69_2, wkA, retV, stabOk, dC, ev, fillD, pickCells, putAt, bnd, slD, List.getElem?_cons_zero, List.getElem?_cons_succ, dR.eq_20, Mem.cell, Mem.row, wmA, s1, s12, s13, s14, s15, s16, hBu, wI, kY, m1', hin]
      refine SK_st (i := i) (o := J) (by simp [wkA, retV, stabOk, dC, ev, fillD, pickCells, putAt, bnd, slD, List.getElem?_cons_zero, List.getElem?_cons_succ, dR.eq_20]) (e := 141) g' (by omega) (by simp [wkA, retV, stabOk, dC, ev, fillD, pickCells, putAt, bnd, slD, List.getElem?_cons_zero, List.getElem?_cons_succ, dR.eq_20]) (by simp [wkA, retV, stabOk, dC, ev, fillD, pickCells, putAt, bnd, slD, List.getElem?_cons_zero, List.getElem?_cons_succ, dR.eq_20, oneC]) ?_
      have hpa := putAt_ahead (c := digC u) hl htl hdr
      rw [hJ] at hpa
      have hpe : putAt cs J [.int .u8 (digC u).toNat] = cs.take J ++ .int .u8 (digC u).toNat :: cs.drop (J + 1) := by simp [putAt]
      have hfull : digs B a = digC u :: t := by rw [hd, digs_lt (by omega)]; simp
      simp -implicitDefEqProofs (disch := first | assumption | (simp only [wnA]; done) | (simp only [wnA]; omega) | omega | fail) [wkA, retV, stabOk, dC, ev, fillD, pickCells, putAt, bnd, slD, List.getElem?_cons_zero, List.getElem?_cons_succ, dR.eq_20, Mem.cell, Mem.row, wmA]
      rw [← hpe]
      obtain ⟨p1, p2⟩ := hpa
      generalize putAt cs J [.int .u8 (digC u).toNat] = cs2 at *
      rw [hfull] at hlen hq
      have hJ2 : 65 - (digC u :: t).length = J := by simp; omega
      have hlen2 : t.length + 1 ≤ 22 := by simpa using hlen
      cases neg with
      | false =>
        have eL : (0 : Int) ≤ (J : Int) ∧ (J : Int) ≤ 65 := by omega
        have eJ0 : J ≠ 0 := by omega
        have eJ65 : J ≠ 65 := by omega
        have hrow : (cs2.drop J).take (65 - J) = (digC u :: t).map byteV := by rw [← hJ2, p2]; exact List.take_of_length_le (by simp; omega)
        simp -implicitDefEqProofs (disch := first | assumption | (simp only [wnA]; done) | (simp only [wnA]; omega) | omega | fail) [rc69_8, rc69_7, rc69_6, wkA, retV, stabOk, dC, ev, fillD, pickCells, putAt, bnd, slD, List.getElem?_cons_zero, List.getElem?_cons_succ, dR.eq_20, Mem.cell, Mem.row, wmA, s3, s4, s10, s12, p1, eL]
        rw [bstr_tail (e := 141) (t := digC u :: t) (by simp) p1 hJ2 (by simp; omega) p2]
        simp -implicitDefEqProofs (disch := first | assumption | (simp only [wnA]; done) | (simp only [wnA]; omega) | omega | fail) [wkA, retV, stabOk, dC, ev, fillD, pickCells, putAt, bnd, slD, List.getElem?_cons_zero, List.getElem?_cons_succ, dR.eq_20, Mem.cell, Mem.row, wmA, s10]
        have := hq _ (o'.set hi (.own cs2 141))
        simpa [sgn] using this
      | true =>
        have hlt2 : (digC u :: t).length < 65 := by simp; omega
        have eJ1 : (J : Int) - 1 = ((J - 1 : Nat) : Int) := by omega
        have wJ : IntKind.i64.wrap ((J : Int) - 1) = ((J - 1 : Nat) : Int) := by rw [eJ1]; exact w64 (by omega)
        have hin2 : (0 : Int) ≤ ((J - 1 : Nat) : Int) ∧ ((J - 1 : Nat) : Int) < 65 := by omega
        have hp3 := putAt_ahead (c := 45) p1 hlt2 p2
        rw [hJ2] at hp3
        obtain ⟨p3, p4⟩ := hp3
        generalize hK2 : J - 1 = J3 at *
        have hpe3 : putAt cs2 J3 [.int .u8 (45 : UInt8).toNat] = cs2.take J3 ++ .int .u8 45 :: cs2.drop (J3 + 1) := by simp [putAt]
        simp -implicitDefEqProofs (disch := first | assumption | (simp only [wnA]; done) | (simp only [wnA]; omega) | omega | fail) [rc69_8, wkA, retV, stabOk, dC, ev, fillD, pickCells, putAt, bnd, slD, List.getElem?_cons_zero, List.getElem?_cons_succ, dR.eq_20, Mem.cell, Mem.row, wmA, s3, s4, s10, s12, wJ, hin2]
        refine SK_st (i := i) (o := J3) (by simp [wkA, retV, stabOk, dC, ev, fillD, pickCells, putAt, bnd, slD, List.getElem?_cons_zero, List.getElem?_cons_succ, dR.eq_20]) (e := 141) (cs := cs2) (by simp) (by omega) (by simp [wkA, retV, stabOk, dC, ev, fillD, pickCells, putAt, bnd, slD, List.getElem?_cons_zero, List.getElem?_cons_succ, dR.eq_20]) (by simp [wkA, retV, stabOk, dC, ev, fillD, pickCells, putAt, bnd, slD, List.getElem?_cons_zero, List.getElem?_cons_succ, dR.eq_20, oneC]) ?_
        simp -implicitDefEqProofs (disch := first | assumption | (simp only [wnA]; done) | (simp only [wnA]; omega) | omega | fail) [wkA, retV, stabOk, dC, ev, fillD, pickCells, putAt, bnd, slD, List.getElem?_cons_zero, List.getElem?_cons_succ, dR.eq_20, Mem.cell, Mem.row, wmA]
        rw [← hpe3]
        generalize putAt cs2 J3 [.int .u8 (45 : UInt8).toNat] = cs4 at *
        have eL : (0 : Int) ≤ (J3 : Int) ∧ (J3 : Int) ≤ 65 := by omega
        have eJ0 : J3 ≠ 0 := by omega
        have eJ65 : J3 ≠ 65 := by omega
        have hJ4 : 65 - (45 :: digC u :: t).length = J3 := by simp; omega
        simp -implicitDefEqProofs (disch := first | assumption | (simp only [wnA]; done) | (simp only [wnA]; omega) | omega | fail) [rc69_7, rc69_6, wkA, retV, stabOk, dC, ev, fillD, pickCells, putAt, bnd, slD, List.getElem?_cons_zero, List.getElem?_cons_succ, dR.eq_20, Mem.cell, Mem.row, wmA, s3, s4, s10, s12, p3, eL]
        rw [bstr_tail (e := 141) (t := 45 :: digC u :: t) (by simp) p3 hJ4 (by simp; omega) p4]
        simp -implicitDefEqProofs (disch := first | assumption | (simp only [wnA]; done) | (simp only [wnA]; omega) | omega | fail) [wkA, retV, stabOk, dC, ev, fillD, pickCells, putAt, bnd, slD, List.getElem?_cons_zero, List.getElem?_cons_succ, dR.eq_20, Mem.cell, Mem.row, wmA, s10]
        have := hq _ ((o'.set hi (.own cs2 141)).set hi (.own cs4 141))
        simpa [sgn] using this
theorem c_fmtBits {w0 : World} {m : Mem} {B k a : Nat} {u : Int} {neg : Bool} {Q : Value → Mem → Prop} (hp : Part L0 m) (hB : B = 2 ^ k) (hk : 3 ≤ k ∧ k ≤ 5) (hne : B ≠ 10) (ha : a < 18446744073709551616)
    (hu : u = if neg then IntKind.u64.wrap (0 - (a : Int)) else (a : Int))
    (h1 : outIs (.bool true) (callE tab (xCall xs) Tryz.prog 50 81 [.int .i64 (B : Int)] L0) = true)
    (h2 : outIs (.int .i64 (k : Int)) (callE tab (xCall xs) Tryz.prog 50 82 [.int .u64 (B : Int)] L0) = true)
    (hq : ∀ m', Old m m' → Q (.tuple ⟨[.slice none 0 0, .string ⟨⟨sgn neg ++ digs B a⟩⟩]⟩) m') :
    AbC Tryz.prog w0 69 [.slice none 0 0, .int .u64 u, .int .i64 (B : Int), .bool neg, .bool false] m Q := by
  refine AbC_fn ok69 (by simp) ?_
  have hB2 : 8 ≤ B := by rw [hB]; calc 8 = 2 ^ 3 := rfl
    _ ≤ 2 ^ k := Nat.pow_le_pow_right (by omega) hk.1
  have hB3 : B ≤ 32 := by rw [hB]; calc 2 ^ k ≤ 2 ^ 5 := Nat.pow_le_pow_right (by omega) hk.2
    _ = 32 := rfl
  have f1 : (2 : Int) ≤ B := by omega
  have f2 : (B : Int) ≠ 10 := by omega
  have f3 : (B : Int) ≤ 36 := by omega
  simp -implicitDefEqProofs (disch := first | assumption | (simp only [wnA]; done) | (simp only [wnA]; omega) | omega | fail) [rc69, ro69, wkA, retV, stabOk, dC, ev, fillD, pickCells, putAt, bnd, slD, List.getElem?_cons_zero, List.getElem?_cons_succ, dR.eq_20, Mem.cell, Mem.row, wmA, ltF f1, beqF f2, gtF f3]
  have ho : ∀ E, Old m (m.push E) := fun E => (Old.refl m).push _
  cases neg with
  | false =>
    have hu' : u = (a : Int) := by simpa using hu
    subst hu'
    simp -implicitDefEqProofs (disch := first | assumption | (simp only [wnA]; done) | (simp only [wnA]; omega) | omega | fail) [rc69_10, wkA, retV, stabOk, dC, ev, fillD, pickCells, putAt, bnd, slD, List.getElem?_cons_zero, List.getElem?_cons_succ, dR.eq_20, Mem.cell, Mem.row, wmA]
    exact c_fmtTail (k := k) ((ho _).part hp) (ho _) (Nat.le_refl m.next) (by simp) (by simp -implicitDefEqProofs (disch := first | assumption | (simp only [wnA]; done) | (simp only [wnA]; omega) | omega | fail) [Mem.cell, Mem.row, wmA]; rfl) (by simp) hB hk hB2 hB3 ha (by simp [frA_at]) (by simp [frA_at]) (by simp [frA_at]) (by simp [frA_at]) (by simp) (by simp) (by simp) h1 h2 hq
  | true =>
    have hu' : u = IntKind.u64.wrap (0 - (a : Int)) := by simpa using hu
    have hw : IntKind.u64.wrap (0 - u) = (a : Int) := by
      subst hu'
      simp only [IntKind.wrap, IntKind.bits, IntKind.signed]
      simp
      omega
    have hw' : IntKind.u64.wrap (-u) = (a : Int) := by simpa using hw
    simp -implicitDefEqProofs (disch := first | assumption | (simp only [wnA]; done) | (simp only [wnA]; omega) | omega | fail) [rc69_10, wkA, retV, stabOk, dC, ev, fillD, pickCells, putAt, bnd, slD, List.getElem?_cons_zero, List.getElem?_cons_succ, dR.eq_20, Mem.cell, Mem.row, wmA, hw, hw']
    exact c_fmtTail (k := k) ((ho _).part hp) (ho _) (Nat.le_refl m.next) (by simp) (by simp -implicitDefEqProofs (disch := first | assumption | (simp only [wnA]; done) | (simp only [wnA]; omega) | omega | fail) [Mem.cell, Mem.row, wmA]; rfl) (by simp) hB hk hB2 hB3 ha (by simp [frA_at]) (by simp [frA_at]) (by simp [frA_at]) (by simp [frA_at]) (by simp) (by simp) (by simp) h1 h2 hq
end Go.Proofs.YtiapjjgmmiifmaaGreatDoor.Ab

set_option linter.unusedVariables false
set_option linter.unusedSimpArgs false
namespace Go.Proofs.YtiapjjgmmiifmaaGreatDoor.Ab
open Go Go.RowKit
set_option maxHeartbeats 4000000
set_option maxRecDepth 100000
def slaW (m : Mem) (len sz : Nat) (v : Value) (lo hi : Option Value) : Option Value := match v with
  | .pointer (some ⟨i, o, none⟩) => match m.get i with
    | .own cs _ => if o + len * sz ≤ cs.length ∧ 0 < len * sz then slW sz (.slice (some ⟨i, o, none⟩) len sz) lo hi else none
    | _ => none
  | _ => none
theorem slW_slD {ts : Fr} {len sz i o : Nat} {lo hi : Option Operand} : slW sz (.slice (some ⟨i, o, none⟩) len sz) (lo.map (ev ts)) (hi.map (ev ts)) = slD sz ts lo hi i o len := by
  have e1 : ∀ a b, bnd (fun k => if k = 0 then Value.slice (some ⟨i, o, none⟩) len sz else if k = 1 then (lo.map (ev ts)).getD undef else (hi.map (ev ts)).getD undef) ((lo.map (ev ts)).map fun _ => .tmp 1) a b = bnd ts lo a b := fun a b => by cases lo <;> rfl
  have e2 : ∀ a b, bnd (fun k => if k = 0 then Value.slice (some ⟨i, o, none⟩) len sz else if k = 1 then (lo.map (ev ts)).getD undef else (hi.map (ev ts)).getD undef) ((hi.map (ev ts)).map fun _ => .tmp 2) a b = bnd ts hi a b := fun a b => by cases hi <;> rfl
  unfold slW
  rw [dR.eq_20]
  simp only [ev, if_true, slD, e1, e2]
theorem dR_sla {ts : Fr} {m : Mem} {len sz : Nat} {x : Operand} {lo hi : Option Operand} : dR ts m (.sla len sz x lo hi) = slaW m len sz (ev ts x) (lo.map (ev ts)) (hi.map (ev ts)) := by
  rw [dR.eq_21]
  unfold slaW
  generalize ev ts x = v
  split
  · rename_i i o
    simp only []
    cases m.get i <;> simp only []
    rw [slW_slD]
  · rename_i hne
    split
    · rename_i i o
      exact (hne i o rfl).elim
    · rfl
theorem SK_fn {P : Program} {w0 : World} {ts : Fr} {m : Mem} {R : Value → Mem → Prop} {f : FuncId} {args : List Operand} : SK P w0 (.c (.fn f args)) ts m R = AbC P w0 f (args.map (ev ts)) m R := rfl
def slsW (s : Value) (lo hi : Option Value) : Option Value :=
  dR (fun k => if k = 0 then s else if k = 1 then lo.getD undef else hi.getD undef) ⟨0, fun _ => .dead⟩ (.sls (.tmp 0) (lo.map fun _ => .tmp 1) (hi.map fun _ => .tmp 2))
theorem dR_sls {ts : Fr} {m : Mem} {x : Operand} {lo hi : Option Operand} : dR ts m (.sls x lo hi) = slsW (ev ts x) (lo.map (ev ts)) (hi.map (ev ts)) := by
  cases lo <;> cases hi <;> rfl
theorem ext_list (l : List UInt8) (a b : Nat) : (ByteArray.mk ⟨l⟩).extract a b = ⟨⟨(l.drop a).take (b - a)⟩⟩ := by
  apply ByteArray.ext
  rw [ByteArray.data_extract]
  apply Array.toList_inj.1
  simp
theorem slsW_at {l : List UInt8} {a b : Nat} (h : a ≤ b) (hb : b ≤ l.length) : slsW (.string ⟨⟨l⟩⟩) (some (.int .i64 (a : Int))) (some (.int .i64 (b : Int))) = some (.string ⟨⟨(l.drop a).take (b - a)⟩⟩) := by
  have h1 : (0 : Int) ≤ (b : Int) ∧ (b : Int) ≤ ((ByteArray.mk ⟨l⟩).size : Int) := ⟨by omega, by show (b : Int) ≤ (l.length : Int); omega⟩
  have h2 : (0 : Int) ≤ (a : Int) ∧ (a : Int) ≤ (b : Int) := ⟨by omega, by omega⟩
  simp only [slsW, dR, ev, Option.map, bnd, Option.getD, if_pos h1, if_pos h2, Int.toNat_natCast, ext_list]
  simp [h1, h2, ext_list, hb, h]
theorem wkB : type_of% (And.intro @AbW_skip (And.intro @AbW_run (And.intro @AbW_fork (And.intro @AbW_seq (And.intro @AbW_condR (And.intro @condR_true (And.intro @condR_false (And.intro @AbW_block (And.intro @AbW_loop (And.intro @AbW_jumps (And.intro @AbW_label (And.intro @AbW_goto (And.intro @jumpA_normal (And.intro @jumpA_exit (And.intro @jumpA_ret (And.intro @jumpA_goto (And.intro @dEq_bool (And.intro @dEq_int (And.intro @dEq_str (And.intro @dEq_ptr0 (And.intro @dEq_ptr1 (And.intro @dEq_ptr2 (And.intro @dEq_nil (And.intro @dEq_niln (And.intro @dEq_nnil (And.intro @AbW_exit (And.intro @AbW_ret (And.intro @thenA_normal (And.intro @thenA_exit (And.intro @thenA_ret (And.intro @inBlockA_normal (And.intro @inBlockA_exit (And.intro @inBlockA_ret (And.intro @bodyA_normalR (And.intro @bodyA_retR (And.intro @RS_nil (And.intro @RS_consG (And.intro @guardR_true (And.intro @guardR_false (And.intro @contK_at (And.intro @SK_rr (And.intro @bindR_some (And.intro @SK_a (And.intro @SK_fn (And.intro @wantD_none (And.intro @wantD_some (And.intro @wantB_bool (And.intro @wantB_undef (And.intro @dR_lenl (And.intro @dR_ia (And.intro @dR_b2s (And.intro @slen_sl (And.intro @dR.eq_1 (And.intro @dR.eq_2 (And.intro @dR.eq_3 (And.intro @dR.eq_4 (And.intro @dR.eq_5 (And.intro @dR.eq_6 (And.intro @dR.eq_7 (And.intro @dR.eq_8 (And.intro @dR.eq_9 (And.intro @dR.eq_10 (And.intro @dR.eq_11 (And.intro @dR.eq_12 (And.intro @dR.eq_13 (And.intro @dR.eq_14 (And.intro @dR.eq_16 (And.intro @dR.eq_17 (And.intro @dR.eq_18 (And.intro @dR_sls (And.intro @dR_sla (And.intro @dR.eq_22 (And.intro @dR.eq_24 (And.intro @dR.eq_25 (And.intro @dR.eq_26 (And.intro @dR.eq_27 (And.intro @dR.eq_28 (And.intro @dR.eq_29 (And.intro @dR.eq_30 (And.intro @dR.eq_32 (And.intro @dR.eq_33 (And.intro @dR.eq_34 (And.intro @dR.eq_35 (And.intro @dR.eq_36 (And.intro @dR.eq_37 (And.intro @dR.eq_39 (And.intro @frA_at (And.intro @cellsV_agg (And.intro @cellsV_bool (And.intro @cellsV_int (And.intro @cellsV_str (And.intro @cellsV_ptr (And.intro @cellsV_sl (And.intro @cellsV_slV (And.intro @cellsV_map (And.intro @cellsV_iface (And.intro @cellsV_nili (And.intro @cellsV_func (And.intro @cellsV_nilf (And.intro @lenV_sl (And.intro @lenV_str (And.intro @oneC_slV (And.intro @thenA_goto (And.intro @inBlockA_goto (@dR_sl))))))))))))))))))))))))))))))))))))))))))))))))))))))))))))))))))))))))))))))))))))))))))))))))))))))))) := And.intro @AbW_skip (And.intro @AbW_run (And.intro @AbW_fork (And.intro @AbW_seq (And.intro @AbW_condR (And.intro @condR_true (And.intro @condR_false (And.intro @AbW_block (And.intro @AbW_loop (And.intro @AbW_jumps (And.intro @AbW_label (And.intro @AbW_goto (And.intro @jumpA_normal (And.intro @jumpA_exit (And.intro @jumpA_ret (And.intro @jumpA_goto (And.intro @dEq_bool (And.intro @dEq_int (And.intro @dEq_str (And.intro @dEq_ptr0 (And.intro @dEq_ptr1 (And.intro @dEq_ptr2 (And.intro @dEq_nil (And.intro @dEq_niln (And.intro @dEq_nnil (And.intro @AbW_exit (And.intro @AbW_ret (And.intro @thenA_normal (And.intro @thenA_exit (And.intro @thenA_ret (And.intro @inBlockA_normal (And.intro @inBlockA_exit (And.intro @inBlockA_ret (And.intro @bodyA_normalR (And.intro @bodyA_retR (And.intro @RS_nil (And.intro @RS_consG (And.intro @guardR_true (And.intro @guardR_false (And.intro @contK_at (And.intro @SK_rr (And.intro @bindR_some (And.intro @SK_a (And.intro @SK_fn (And.intro @wantD_none (And.intro @wantD_some (And.intro @wantB_bool (And.intro @wantB_undef (And.intro @dR_lenl (And.intro @dR_ia (And.intro @dR_b2s (And.intro @slen_sl (And.intro @dR.eq_1 (And.intro @dR.eq_2 (And.intro @dR.eq_3 (And.intro @dR.eq_4 (And.intro @dR.eq_5 (And.intro @dR.eq_6 (And.intro @dR.eq_7 (And.intro @dR.eq_8 (And.intro @dR.eq_9 (And.intro @dR.eq_10 (And.intro @dR.eq_11 (And.intro @dR.eq_12 (And.intro @dR.eq_13 (And.intro @dR.eq_14 (And.intro @dR.eq_16 (And.intro @dR.eq_17 (And.intro @dR.eq_18 (And.intro @dR_sls (And.intro @dR_sla (And.intro @dR.eq_22 (And.intro @dR.eq_24 (And.intro @dR.eq_25 (And.intro @dR.eq_26 (And.intro @dR.eq_27 (And.intro @dR.eq_28 (And.intro @dR.eq_29 (And.intro @dR.eq_30 (And.intro @dR.eq_32 (And.intro @dR.eq_33 (And.intro @dR.eq_34 (And.intro @dR.eq_35 (And.intro @dR.eq_36 (And.intro @dR.eq_37 (And.intro @dR.eq_39 (And.intro @frA_at (And.intro @cellsV_agg (And.intro @cellsV_bool (And.intro @cellsV_int (And.intro @cellsV_str (And.intro @cellsV_ptr (And.intro @cellsV_sl (And.intro @cellsV_slV (And.intro @cellsV_map (And.intro @cellsV_iface (And.intro @cellsV_nili (And.intro @cellsV_func (And.intro @cellsV_nilf (And.intro @lenV_sl (And.intro @lenV_str (And.intro @oneC_slV (And.intro @thenA_goto (And.intro @inBlockA_goto (@dR_sl))))))))))))))))))))))))))))))))))))))))))))))))))))))))))))))))))))))))))))))))))))))))))))))))))))))))
abbrev HL := List (Option Nat × Ent)
def ids (l : HL) (i : Nat) : Prop := ∃ p ∈ l, p.1 = some i
def Apart (p q : Option Nat × Ent) : Prop := ∀ i, p.1 = some i → q.1 ≠ some i
theorem Apart.symm {p q : Option Nat × Ent} (h : Apart p q) : Apart q p := fun i hq hp => h i hp hq
theorem Part.kV {L : LM} {V : Nat → Prop} {m m' : Mem} (h : Part L m) (k : Keeps V m m') (hV : ∀ i, i < L.n → V i) : Part L m' := by
  refine ⟨Nat.le_trans h.1 k.1, fun i => ?_⟩
  rcases h.2 i with h1 | ⟨cs, h1, h2, h3⟩
  · exact .inl h1
  · have hi : i < L.n := by
      rcases Nat.lt_or_ge i L.n with h' | h'
      · exact h'
      · rw [LM.get_ge (by omega)] at h1; cases h1
    exact .inr ⟨cs, h1, by rw [k.2 i (Nat.lt_of_lt_of_le hi h.1) (hV i hi)]; exact h2, h3⟩
def byH (ob : Option Nat) (l : List UInt8) : Option Nat × Ent := (ob, .own (l.map byteV) 5)
/-- Since m0 what lies in V was kept; the blocks of l lie apart from one another and from V. -/
structure Sep (m0 : Mem) (V : Nat → Prop) (m : Mem) (l : HL) : Prop where
  k : Keeps V m0 m
  vl : ∀ i, V i → i < m0.next
  gl : ∀ i, i < L0.n → V i
  pt : Part L0 m
  ok : ∀ p ∈ l, ∀ i, p.1 = some i → m.get i = p.2 ∧ i < m.next ∧ ¬ V i
  ap : l.Pairwise Apart
section
variable {m0 m m' : Mem} {V : Nat → Prop} {l l' A A' B : HL}
theorem Sep.step (h : Sep m0 V m l) (k : Keeps V m m') (ok : ∀ p ∈ l', ∀ i, p.1 = some i → m'.get i = p.2 ∧ i < m'.next ∧ ¬ V i) (ap : l'.Pairwise Apart) : Sep m0 V m' l' :=
  ⟨h.k.trans k, h.vl, h.gl, h.pt.kV k h.gl, ok, ap⟩
theorem Sep.n (h : Sep m0 V m l) : m0.next ≤ m.next := h.k.1
theorem Sep.self (h : Sep m0 V m l) : Sep m V m l := ⟨Keeps.refl V m, fun i hi => Nat.lt_of_lt_of_le (h.vl i hi) h.n, h.gl, h.pt, h.ok, h.ap⟩
theorem Sep.tr (h : Sep m0 V m l) (h2 : Sep m V m' l') : Sep m0 V m' l' := ⟨h.k.trans h2.k, h.vl, h.gl, h2.pt, h2.ok, h2.ap⟩
theorem Sep.trm {V' : Nat → Prop} (h : Sep m0 V m l) (h2 : Sep m V' m' l') (hV : ∀ i, V i → V' i) : Sep m0 V m' l' := ⟨h.k.trans (h2.k.mono fun i _ hi => hV i hi), h.vl, h.gl, h2.pt, fun p hp i hi => let a := h2.ok p hp i hi; ⟨a.1, a.2.1, fun hv => a.2.2 (hV i hv)⟩, h2.ap⟩
theorem Sep.mem (h : Sep m0 V m l) {i : Nat} {E : Ent} (hm : (some i, E) ∈ l) : m.get i = E := (h.ok _ hm i rfl).1
theorem Sep.get (h : Sep m0 V m l) (n : Nat) {i : Nat} {E : Ent} (hn : l[n]? = some (some i, E)) : m.get i = E := h.mem (List.mem_of_getElem? hn)
theorem Sep.lt (h : Sep m0 V m l) (n : Nat) {i : Nat} {E : Ent} (hn : l[n]? = some (some i, E)) : i < m.next := (h.ok _ (List.mem_of_getElem? hn) i rfl).2.1
theorem Sep.nv (h : Sep m0 V m l) (n : Nat) {i : Nat} {E : Ent} (hn : l[n]? = some (some i, E)) : ¬ V i := (h.ok _ (List.mem_of_getElem? hn) i rfl).2.2
theorem Sep.il (h : Sep m0 V m l) {i : Nat} (hi : ids l i) : i < m.next ∧ ¬ V i := by
  obtain ⟨p, hp, he⟩ := hi
  exact (h.ok p hp i he).2
theorem Sep.ne (h : Sep m0 V m l) {j n : Nat} (hjn : j ≠ n) {p q : Option Nat × Ent} (hj : l[j]? = some p) (hn : l[n]? = some q) : Apart p q := by
  obtain ⟨a, rfl⟩ := List.getElem?_eq_some_iff.1 hj
  obtain ⟨b, rfl⟩ := List.getElem?_eq_some_iff.1 hn
  have := List.pairwise_iff_getElem.1 h.ap
  rcases Nat.lt_or_gt_of_ne hjn with h1 | h1
  · exact this _ _ a b h1
  · exact (this _ _ b a h1).symm
theorem apart_set (h : l.Pairwise Apart) {n : Nat} {x : Option Nat × Ent} (hx : ∀ k p, k ≠ n → l[k]? = some p → Apart p x) : (l.set n x).Pairwise Apart := by
  rw [List.pairwise_iff_getElem] at h ⊢
  intro i j hi hj hij
  simp only [List.length_set] at hi hj
  rw [List.getElem_set, List.getElem_set]
  split
  · split
    · omega
    · exact (hx j _ (by omega) (List.getElem?_eq_getElem hj)).symm
  · split
    · exact hx i _ (by omega) (List.getElem?_eq_getElem hi)
    · exact h i j hi hj hij
theorem Sep.upd (h : Sep m0 V m l) (n : Nat) {p0 x : Option Nat × Ent} (hn : l[n]? = some p0) (k : Keeps V m m') (hx : ∀ i, x.1 = some i → m'.get i = x.2 ∧ i < m'.next ∧ ¬ V i) (hxo : ∀ i, x.1 = some i → p0.1 = some i ∨ m.next ≤ i)
    (ho : ∀ i, i < m.next → p0.1 ≠ some i → m'.get i = m.get i) : Sep m0 V m' (l.set n x) := by
  refine h.step k (fun p hp i hi => ?_) (apart_set h.ap fun j p hj hp i hi hxi => ?_)
  · obtain ⟨j, hj⟩ := List.mem_iff_getElem?.1 hp
    rw [List.getElem?_set] at hj
    split at hj
    · split at hj
      · cases hj; exact hx i hi
      · cases hj
    · rename_i hnj
      have h1 := h.ok p (List.mem_of_getElem? hj) i hi
      have h2 := h.ne (fun e => hnj e.symm) hj hn i hi
      exact ⟨by rw [ho i h1.2.1 h2]; exact h1.1, Nat.lt_of_lt_of_le h1.2.1 k.1, h1.2.2⟩
  · rcases hxo i hxi with h1 | h1
    · exact h.ne hj hp hn i hi h1
    · have := (h.ok p (List.mem_of_getElem? hp) i hi).2.1
      omega
theorem Sep.set (h : Sep m0 V m l) (n : Nat) {i : Nat} {E0 : Ent} (hn : l[n]? = some (some i, E0)) (E : Ent) : Sep m0 V (m.set i E) (l.set n (some i, E)) := by
  refine h.upd n hn ((Keeps.refl V m).set (fun _ => h.nv n hn) E) (fun j hj => ?_) (fun j hj => .inl hj) fun j hj hne => Mem.set_other _ _ fun e => hne (by rw [e])
  cases hj
  exact ⟨Mem.set_same _ _ _, h.lt n hn, h.nv n hn⟩
theorem Sep.nul (h : Sep m0 V m l) (n : Nat) (E : Ent) : Sep m0 V m (l.set n (none, E)) := by
  refine h.step (Keeps.refl V m) (fun p hp i hi => ?_) (apart_set h.ap fun j p hj hp i hi hxi => by cases hxi)
  rcases List.mem_or_eq_of_mem_set hp with h1 | h1
  · exact h.ok p h1 i hi
  · subst h1; cases hi
theorem Sep.vn (h : Sep m0 V m l) {i : Nat} (hi : m.next ≤ i) : ¬ V i := fun hv => by have := h.vl i hv; have := h.n; omega
theorem Sep.repl (h : Sep m0 V m l) (n : Nat) {ob : Option Nat} {E0 : Ent} (hn : l[n]? = some (ob, E0)) (E : Ent) : Sep m0 V ((m.kill ob).push E) (l.set n (some m.next, E)) := by
  refine h.upd n hn (((Keeps.refl V m).kill fun i hi _ => (h.ok _ (List.mem_of_getElem? hn) i hi).2.2).push E) (fun j hj => ?_) (fun j hj => .inr (by cases hj; exact Nat.le_refl _)) fun j hj hne => ?_
  · cases hj
    exact ⟨Mem.push_at _ _ rfl, by simp [Mem.kill_nxt], h.vn (Nat.le_refl _)⟩
  · rw [Mem.push_old _ _ (by simpa [Mem.kill_nxt] using hj), Mem.kill_other _ hne]
theorem Sep.old (h : Sep m0 V m l) (o : Old m m') : Sep m0 V m' l :=
  h.step o.keeps (fun p hp i hi => let h1 := h.ok p hp i hi; ⟨by rw [o.2 i h1.2.1]; exact h1.1, Nat.lt_of_lt_of_le h1.2.1 o.1, h1.2.2⟩) h.ap
theorem Sep.new (h : Sep m0 V m l) {ob : Option Nat} {E : Ent} (o : Old m m') (hb : ∀ i, ob = some i → m.next ≤ i ∧ i < m'.next ∧ m'.get i = E) : Sep m0 V m' ((ob, E) :: l) := by
  have h1 := h.old o
  refine h.step o.keeps (fun p hp i hi => ?_) (List.pairwise_cons.2 ⟨fun q hq i hi hqi => ?_, h.ap⟩)
  · rcases List.mem_cons.1 hp with rfl | hp
    · have := hb i hi
      exact ⟨this.2.2, this.2.1, h.vn this.1⟩
    · exact h1.ok p hp i hi
  · have := (h.ok q hq i hqi).2.1
    have := (hb i hi).1
    omega
theorem Sep.non (h : Sep m0 V m l) (E : Ent) : Sep m0 V m ((none, E) :: l) := h.new (Old.refl m) fun i hi => by cases hi
theorem Sep.push (h : Sep m0 V m l) (E : Ent) : Sep m0 V (m.push E) ((some m.next, E) :: l) :=
  h.new ((Old.refl m).push E) fun i hi => by cases hi; exact ⟨Nat.le_refl _, by simp, Mem.push_at _ _ rfl⟩
theorem Sep.sub (h : Sep m0 V m l) (hs : l'.Sublist l) : Sep m0 V m l' := ⟨h.k, h.vl, h.gl, h.pt, fun p hp => h.ok p (hs.subset hp), h.ap.sublist hs⟩
theorem Sep.tl {p : Option Nat × Ent} (h : Sep m0 V m (p :: l)) : Sep m0 V m l := h.sub (List.sublist_cons_self _ _)
theorem Sep.del (h : Sep m0 V m l) (n : Nat) : Sep m0 V m (l.eraseIdx n) := h.sub (List.eraseIdx_sublist _ _)
/-- Some of them, in another order. -/
theorem Sep.sel (h : Sep m0 V m l) (is : List Nat) (hd : is.Nodup) : Sep m0 V m (is.filterMap fun k => l[k]?) := by
  refine ⟨h.k, h.vl, h.gl, h.pt, fun p hp => ?_, ?_⟩
  · obtain ⟨k, _, hk⟩ := List.mem_filterMap.1 hp
    exact h.ok p (List.mem_of_getElem? hk)
  · rw [List.pairwise_filterMap]
    exact hd.imp fun {a b} hab p hp q hq => h.ne hab hp hq
theorem Sep.perm (h : Sep m0 V m l) (p : l.Perm l') : Sep m0 V m l' := ⟨h.k, h.vl, h.gl, h.pt, fun q hq => h.ok q (p.mem_iff.2 hq), (p.pairwise_iff Apart.symm).1 h.ap⟩
theorem Sep.fr (h : Sep m0 V m (A ++ B)) : Sep m (fun i => V i ∨ ids B i) m A := by
  have hp := List.pairwise_append.1 h.ap
  refine ⟨Keeps.refl _ m, fun i hi => ?_, fun i hi => .inl (h.gl i hi), h.pt, fun p hm i hi => ?_, hp.1⟩
  · rcases hi with hi | ⟨q, hq, he⟩
    · exact Nat.lt_of_lt_of_le (h.vl i hi) h.n
    · exact (h.ok q (List.mem_append_right _ hq) i he).2.1
  · have h1 := h.ok p (List.mem_append_left _ hm) i hi
    refine ⟨h1.1, h1.2.1, fun hv => hv.elim h1.2.2 fun ⟨q, hq, he⟩ => hp.2.2 p hm q hq i hi he⟩
theorem Sep.un (h : Sep m0 V m (A ++ B)) (h2 : Sep m (fun i => V i ∨ ids B i) m' A') : Sep m0 V m' (A' ++ B) := by
  have hp := List.pairwise_append.1 h.ap
  refine h.step (h2.k.mono fun i _ hi => .inl hi) (fun p hm i hi => ?_) (List.pairwise_append.2 ⟨h2.ap, hp.2.1, fun p hpA q hqB i hi hqi => ?_⟩)
  · rcases List.mem_append.1 hm with hm | hm
    · have h1 := h2.ok p hm i hi
      exact ⟨h1.1, h1.2.1, fun hv => h1.2.2 (.inl hv)⟩
    · have h1 := h.ok p (List.mem_append_right _ hm) i hi
      exact ⟨by rw [h2.k.2 i h1.2.1 (.inr ⟨p, hm, hi⟩)]; exact h1.1, Nat.lt_of_lt_of_le h1.2.1 h2.n, h1.2.2⟩
  · exact (h2.ok p hpA i hi).2.2 (.inr ⟨q, hqB, hqi⟩)
theorem Sep.slO (h : Sep m0 V m l) (n : Nat) {ob : Option Nat} {cs : List Value} {e sz k : Nat} (hn : l[n]? = some (ob, .own cs e)) (hl : cs.length = k * sz) (hp : ob = none → k = 0) : SlO m e sz ob cs k := by
  refine ⟨hl, ?_⟩
  cases ob with
  | none => exact hp rfl
  | some b => exact ⟨h.get n hn, h.lt n hn⟩
theorem Sep.rd (h : Sep m0 V m l) (n : Nat) {ob : Option Nat} {cs : List Value} {e sz k : Nat} (hn : l[n]? = some (ob, .own cs e)) (hl : cs.length = k * sz) (hp : ob = none → k = 0) {X : Nat → Prop} (hX : ∀ i, ob = some i → X i) : RdV X m sz (slV ob k sz) cs k :=
  ⟨(h.slO n hn hl hp).read, fun b hb => by
    rw [blk_slV] at hb
    subst hb
    exact ⟨h.lt n hn, hX b rfl⟩⟩
theorem Sep.slm (h : Sep m0 V m l) {ob : Option Nat} {cs : List Value} {e sz k : Nat} (hm : (ob, Ent.own cs e) ∈ l) (hl : cs.length = k * sz) (hp : ob = none → k = 0) : SlO m e sz ob cs k := by
  obtain ⟨n, hn⟩ := List.mem_iff_getElem?.1 hm
  exact h.slO n hn hl hp
theorem RdV.sep {sz n : Nat} {v : Value} {cs : List Value} (r : RdV V m0 sz v cs n) (h : Sep m0 V m l) : RdV V m sz v cs n := r.keep h.k
theorem Sep.prot (h : Sep m0 V m l) (P : Nat → Prop) (hp : ∀ i, P i → i < m.next ∧ ¬ ids l i) : Sep m (fun i => V i ∨ P i) m l :=
  ⟨Keeps.refl _ m, fun i hi => hi.elim (fun h' => Nat.lt_of_lt_of_le (h.vl i h') h.n) (fun h' => (hp i h').1), fun i hi => .inl (h.gl i hi), h.pt, fun p hp' i hi => let a := h.ok p hp' i hi; ⟨a.1, a.2.1, fun hv => hv.elim a.2.2 fun hP => (hp i hP).2 ⟨p, hp', hi⟩⟩, h.ap⟩
theorem Sep.of (hp : Part L0 m) (hv : ∀ i, V i → i < m.next) (hg : ∀ i, i < L0.n → V i) : Sep m V m [] := ⟨Keeps.refl V m, hv, hg, hp, fun p hp => (List.not_mem_nil hp).elim, .nil⟩
theorem SlR.txt {m : Mem} {v : Value} {l : List UInt8} (h : SlR m 1 v (l.map byteV) l.length) : bstr m v = some (.string ⟨⟨l⟩⟩) := by
  rcases h.2 with ⟨h0, h1⟩ | ⟨i, o, L, rfl, h2, h3, h4⟩
  · have : l = [] := List.length_eq_zero_iff.1 h0
    subst this
    rcases h1 with rfl | rfl <;> rfl
  · rw [Nat.mul_one] at h3 h4
    have hr : m.row i o l.length = some (l.map byteV) := by
      simp only [Mem.row, h2]
      rw [if_pos h3, h4]
    simp only [Ab.bstr, hr, bytesOf_mapN]
theorem Sep.ofOld (hp : Part L0 m) : Sep m (fun i => i < m.next) m [] := ⟨Keeps.refl _ m, fun _ h => h, fun i hi => Nat.lt_of_lt_of_le hi hp.1, hp, fun p hp => (List.not_mem_nil hp).elim, .nil⟩
theorem Sep.toOld (h : Sep m (fun i => i < m.next) m' l) : Old m m' := ⟨h.k.1, fun i hi => h.k.2 i hi hi⟩
theorem Sep.fresh (h : Sep m (fun i => i < m.next) m' l) (n : Nat) {ob : Option Nat} {E : Ent} (hn : l[n]? = some (ob, E)) : ∀ i, ob = some i → m.next ≤ i ∧ i < m'.next ∧ m'.get i = E := fun i hi => by
  have := h.ok _ (List.mem_of_getElem? hn) i hi
  exact ⟨Nat.not_lt.1 this.2.2, this.2.1, this.1⟩
theorem RdV.o {X : Nat → Prop} {sz n : Nat} {v : Value} {cs : List Value} (r : RdV X m sz v cs n) : RdV (fun i => i < m.next) m sz v cs n := ⟨r.sl, fun b hb => ⟨(r.bl b hb).1, (r.bl b hb).1⟩⟩
theorem RdV.old {X : Nat → Prop} {sz n : Nat} {v : Value} {cs : List Value} (r : RdV X m sz v cs n) (o : Old m m') : RdV X m' sz v cs n := r.keep o.keeps
theorem RdV.nil {X : Nat → Prop} {sz : Nat} : RdV X m sz (.slice none 0 0) [] 0 := ⟨⟨by simp, .inl ⟨rfl, .inl rfl⟩⟩, fun b hb => by cases hb⟩
section
variable {P : Program} {w0 : World} {ts : Fr} {R : Value → Mem → Prop}
theorem SK_stS (h : Sep m0 V m l) (q : Nat) {n i o : Nat} {p x : Operand} {cs cs' vs : List Value} {e : TypeId} (hq : l[q]? = some (some i, .own cs e)) (hp : ev ts p = .pointer (some ⟨i, o, none⟩)) (hv : cellsV (ev ts x) = vs) (h1 : o + n ≤ cs.length) (h2 : vs.length = n) (h3 : vs.all oneC = true)
    (hM : putAt cs o vs = cs') (hR : ∀ M, Sep m0 V M (l.set q (some i, .own cs' e)) → M.next = m.next → R undef M) : SK P w0 (.e (.st n p x)) ts m R :=
  SK_stK hp (h.get q hq) hv h1 h2 h3 hM (hR _ (h.set q hq _) rfl)
/-- More is put behind an own slice. -/
theorem SK_apS (h : Sep m0 V m l) (q : Nat) {e sz bytes n k : Nat} {ob : Option Nat} {cs ys : List Value} {x y : Operand} (hq : l[q]? = some (ob, .own cs e)) (hx : ev ts x = slV ob n sz) (hl0 : cs.length = n * sz) (hp : ob = none → n = 0) (hy : elemsV m sz (ev ts y) = some ys) (hk : lenV (ev ts y) = k)
    (h1 : ys.all oneC = true) (h2 : (n + k) * bytes ≤ 140737488355328) (h3 : n + k ≤ maxLen) (hl : ys.length = k * sz)
    (hR : ∀ ob' M, Sep m0 V M (l.set q (ob', .own (cs ++ ys) e)) → (ob' = none → n + k = 0) → m.next ≤ M.next → R (slV ob' (n + k) sz) M) : SK P w0 (.e (.app e sz bytes x y)) ts m R := by
  have hO := h.slO q hq hl0 hp
  by_cases hpos : 0 < k
  · exact SK_ap hO hx hy hk hpos h1 h2 h3 hl (hR _ _ (h.repl q hq _) (fun h => by cases h) (by simp [Mem.kill_nxt]))
  · have hk0 : k = 0 := by omega
    subst hk0
    have : ys = [] := by simpa using hl
    subst this
    have e1 : l.set q (ob, .own (cs ++ []) e) = l := by
      rw [List.append_nil]
      apply List.ext_getElem?
      intro j
      rw [List.getElem?_set]
      split
      · rename_i hj
        subst hj
        rw [hq]
        obtain ⟨hlt, _⟩ := List.getElem?_eq_some_iff.1 hq
        rw [if_pos hlt]
      · rfl
    exact SK_app0 hx hy hk (hR ob m (by rw [e1]; exact h) hp (Nat.le_refl _))
/-- A slice is copied into one that is new. -/
theorem SK_nwS (h : Sep m0 V m l) {e sz bytes k : Nat} {ys : List Value} {x y : Operand} (hx : ev ts x = .slice none 0 0) (hy : elemsV m sz (ev ts y) = some ys) (hk : lenV (ev ts y) = k)
    (h1 : ys.all oneC = true) (h2 : k * bytes ≤ 140737488355328) (h3 : k ≤ maxLen) (hl : ys.length = k * sz)
    (hR : ∀ ob M, Sep m0 V M ((ob, .own ys e) :: l) → (ob = none → k = 0) → m.next ≤ M.next → R (slV ob k sz) M) : SK P w0 (.e (.app e sz bytes x y)) ts m R := by
  refine SK_app_new hx hy hk h1 h2 h3 hl fun ob m' hO hn hb ho => hR ob m' (h.new ⟨hn, ho⟩ fun i hi => ?_) (fun hb => by subst hb; exact hO.2) hn
  subst hi
  exact ⟨hb i rfl, hO.lt, hO.2.1⟩
theorem SK_cvm {e : TypeId} {x : Operand} {i o n z : Nat} {cs : List Value} (hx : ev ts x = .slice (some ⟨i, o, none⟩) n z) (hm : m.get i = .own cs e) (hR : R (.slice (some ⟨i, o, none⟩) n z) m) : SK P w0 (.e (.cvm e x)) ts m R := by
  simp only [SK, dE, hx, hm, if_true]
  exact hR
theorem SK_alS (h : Sep m0 V m l) {z : List Value} {e : TypeId} (hR : ∀ b M, Sep m0 V M ((some b, .own z e) :: l) → b = m.next → M.next = m.next + 1 → R (.pointer (some ⟨b, 0, none⟩)) M) : SK P w0 (.e (.al z e)) ts m R := hR _ _ (h.push _) rfl rfl
theorem SK_bxS (h : Sep m0 V m l) {x : Operand} {e : TypeId} {cs : List Value} (hv : cellsV (ev ts x) = cs) (hR : ∀ b M, Sep m0 V M ((some b, .own cs e) :: l) → b = m.next → M.next = m.next + 1 → R (.pointer (some ⟨b, 0, none⟩)) M) : SK P w0 (.e (.bx e x)) ts m R := by
  subst hv
  exact hR _ _ (h.push _) rfl rfl
theorem SK_cpS (h : Sep m0 V m l) (q : Nat) {sz i o n z k : Nat} {x y : Operand} {cs cs' ys : List Value} {e : TypeId} (hq : l[q]? = some (some i, .own cs e)) (hx : ev ts x = .slice (some ⟨i, o, none⟩) n z) (hy : elemsV m sz (ev ts y) = some ys) (hk : lenV (ev ts y) = k) (hkn : k ≤ n)
    (h1 : o + k * sz ≤ cs.length) (h2 : ys.all oneC = true) (hl : ys.length = k * sz) (hM : putAt cs o ys = cs') (hR : ∀ M, Sep m0 V M (l.set q (some i, .own cs' e)) → M.next = m.next → R (.int .i64 (k : Nat)) M) : SK P w0 (.e (.cpy sz x y)) ts m R := by
  have hm := h.get q hq
  have e1 : min k n = k := Nat.min_eq_left hkn
  have e2 : ys.take (k * sz) = ys := List.take_of_length_le (by omega)
  subst hM
  simp only [SK, dE, hy, hx, hm, hk, e1, e2]
  rw [if_pos ⟨h1, h2⟩]
  exact hR _ (h.set q hq _) rfl
theorem SK_mkS (h : Sep m0 V m l) {e bytes n : Nat} {zero : Value} {x y : Operand} (hx : ev ts x = .int .i64 (n : Int)) (hy : ev ts y = .int .i64 (n : Int)) (hb : bytes * n ≤ 140737488355328) (hm : n ≤ maxLen) (hR : ∀ b M, Sep m0 V M ((some b, .own (List.replicate n zero) e) :: l) → b = m.next → M.next = m.next + 1 → R (.slice (some ⟨b, 0, none⟩) n 1) M) : SK P w0 (.e (.mks e bytes zero x y)) ts m R := by
  simp only [SK, dE, hx, hy]
  rw [if_pos ⟨by omega, by omega, by omega, by omega⟩]
  simp only [Int.toNat_natCast]
  exact hR _ _ (h.push _) rfl rfl
theorem SK_bslS (h : Sep m0 V m l) {z : List Value} {e : TypeId} {sz len : Nat} {parts : List (Nat × Nat × Operand)} {cs : List Value} (hf : fillD ts parts z = some cs) (hl : cs.length = len * sz) (hR : ∀ b M, Sep m0 V M ((some b, .own cs e) :: l) → b = m.next → M.next = m.next + 1 → R (.slice (some ⟨b, 0, none⟩) len sz) M) : SK P w0 (.e (.bsl e sz len z parts)) ts m R := by
  rw [SK_bsl hf hl]
  exact hR _ _ (h.push _) rfl rfl
theorem SK_s2bS (h : Sep m0 V m l) {e : TypeId} {x : Operand} {s : List UInt8} (hx : ev ts x = .string ⟨⟨s⟩⟩) (hl : s.length ≤ 140737488355328) (hR : ∀ b M, Sep m0 V M ((some b, .own (s.map byteV) e) :: l) → b = m.next → M.next = m.next + 1 → R (.slice (some ⟨b, 0, none⟩) s.length 1) M) : SK P w0 (.e (.s2b e x)) ts m R := by
  rw [SK_s2b hx hl]
  exact hR _ _ (h.push _) rfl rfl
end
end
end Go.Proofs.YtiapjjgmmiifmaaGreatDoor.Ab

set_option linter.unusedVariables false
set_option linter.unusedSimpArgs false
namespace Go.Proofs.YtiapjjgmmiifmaaGreatDoor.Ab
open Go Go.RowKit
set_option maxHeartbeats 4000000
set_option maxRecDepth 100000
noncomputable def trailL (d : List UInt8) (crc : Bool) : List UInt8 := if crc then [UInt8.ofNat (crcN d / 256), UInt8.ofNat (crcN d % 256)] else [UInt8.ofNat (chkN d)]
def trN (crc : Bool) : Nat := if crc then 2 else 1
theorem trail_len (d : List UInt8) (crc : Bool) : (trailL d crc).length = trN crc := by cases crc <;> rfl
theorem ofN8 {z : Nat} (h : z < 256) : (UInt8.ofNat z).toNat = z := by simp; omega
theorem c_trailer {w0 : World} {m : Mem} {v : Value} {d : List UInt8} {crc : Bool} {Q : Value → Mem → Prop} (hv : SlR m 1 v (d.map byteV) d.length) (hL : d.length ≤ maxLen)
    (hq : Q (.slice (some ⟨m.next, 0, none⟩) (trN crc) 1) (m.push (.own ((trailL d crc).map byteV) 5))) : AbC Tryz.prog w0 48 [v, .bool crc] m Q := by
  refine AbC_fn ok48 (by simp) ?_
  cases crc with
  | false =>
    simp -implicitDefEqProofs (disch := first | assumption | (simp only [wnA]; done) | (simp only [wnA]; omega) | omega | fail) [rc48, ro48, wkA, retV, stabOk, dC, ev, fillD, pickCells, putAt, bnd, slD, List.getElem?_cons_zero, List.getElem?_cons_succ, dR.eq_20, Mem.cell, Mem.row, wmA]
    refine c_Chk hv hL ?_
    have hlt := chkN_lt d
    simp only [trailL, trN, byteV, List.map_cons, List.map_nil, Bool.false_eq_true, if_false] at hq
    rw [ofN8 hlt] at hq
    simp -implicitDefEqProofs (disch := first | assumption | (simp only [wnA]; done) | (simp only [wnA]; omega) | omega | fail) [wkA, retV, stabOk, dC, ev, fillD, pickCells, putAt, bnd, slD, List.getElem?_cons_zero, List.getElem?_cons_succ, dR.eq_20, Mem.cell, Mem.row, wmA]
    rw [SK_bsl (cs := [.int .u8 (chkN d : Nat)]) (by simp [fillD, pickCells, wkA, retV, stabOk, dC, ev, fillD, pickCells, putAt, bnd, slD, List.getElem?_cons_zero, List.getElem?_cons_succ, dR.eq_20]) (by simp)]
    simp -implicitDefEqProofs (disch := first | assumption | (simp only [wnA]; done) | (simp only [wnA]; omega) | omega | fail) [wkA, retV, stabOk, dC, ev, fillD, pickCells, putAt, bnd, slD, List.getElem?_cons_zero, List.getElem?_cons_succ, dR.eq_20, Mem.cell, Mem.row, wmA]
    exact hq
  | true =>
    simp -implicitDefEqProofs (disch := first | assumption | (simp only [wnA]; done) | (simp only [wnA]; omega) | omega | fail) [rc48, ro48, rc48_0, wkA, retV, stabOk, dC, ev, fillD, pickCells, putAt, bnd, slD, List.getElem?_cons_zero, List.getElem?_cons_succ, dR.eq_20, Mem.cell, Mem.row, wmA]
    refine c_Crc hv hL ?_
    have hlt := crcN_lt d
    have q1 : dBin .shr (.int .u16 (crcN d : Nat)) (.int .u64 8) = some (.int .u16 ((crcN d / 256 : Nat) : Int)) := by
      have h1 := shI_eq (op := .shr) (k := .u16) (k' := .u64) (a := Int.ofNat (crcN d)) (b := Int.ofNat 8) (v := .int .u16 (Int.ofNat (Nat.shiftRight (crcN d) 8))) (by
        simp only [shI]
        rw [Nat.ble_eq_true_of_le (show 8 ≤ kBits .u16 by simp only [kBits]; omega)])
      have h2 : Nat.shiftRight (crcN d) 8 = crcN d / 256 := Nat.shiftRight_eq_div_pow (crcN d) 8
      rw [h2] at h1
      exact h1
    have w1 : IntKind.u8.wrap ((crcN d / 256 : Nat) : Int) = ((crcN d / 256 : Nat) : Int) := w8 (by omega)
    have w2 : IntKind.u8.wrap (crcN d : Int) = ((crcN d % 256 : Nat) : Int) := by
      simp only [IntKind.wrap, IntKind.bits, IntKind.signed]
      simp
    simp only [trailL, trN, byteV, List.map_cons, List.map_nil, if_true] at hq
    rw [ofN8 (show crcN d / 256 < 256 by omega), ofN8 (show crcN d % 256 < 256 by omega)] at hq
    generalize crcN d / 256 = a at *
    generalize crcN d % 256 = b at *
    generalize crcN d = c at *
    simp -implicitDefEqProofs (disch := first | assumption | (simp only [wnA]; done) | (simp only [wnA]; omega) | omega | fail) [rc48_0, wkA, retV, stabOk, dC, ev, fillD, pickCells, putAt, bnd, slD, List.getElem?_cons_zero, List.getElem?_cons_succ, dR.eq_20, Mem.cell, Mem.row, wmA, q1, w1, w2]
    rw [SK_bsl (cs := [.int .u8 (a : Nat), .int .u8 (b : Nat)]) (by simp [fillD, pickCells, wkA, retV, stabOk, dC, ev, fillD, pickCells, putAt, bnd, slD, List.getElem?_cons_zero, List.getElem?_cons_succ, dR.eq_20, w1, w2]) (by simp)]
    simp -implicitDefEqProofs (disch := first | assumption | (simp only [wnA]; done) | (simp only [wnA]; omega) | omega | fail) [wkA, retV, stabOk, dC, ev, fillD, pickCells, putAt, bnd, slD, List.getElem?_cons_zero, List.getElem?_cons_succ, dR.eq_20, Mem.cell, Mem.row, wmA]
    exact hq
noncomputable def blkL (no : UInt8) (d : List UInt8) (crc : Bool) : List UInt8 := (if d.length = 128 then 1 else 2) :: no :: (255 - no) :: (d ++ trailL d crc)
theorem blk_len (no : UInt8) (d : List UInt8) (crc : Bool) : (blkL no d crc).length = 3 + d.length + trN crc := by
  simp only [blkL, List.length_cons, List.length_append, trail_len]; omega
theorem xor255 : ∀ n : Fin 256, 255 ^^^ n.val = 255 - n.val := by decide +kernel
theorem com8 (c : UInt8) : IntKind.u8.wrap ((((if IntKind.u8.signed = true then (-1 : Int) else IntKind.u8.max) % 2 ^ IntKind.u8.bits).toNat ^^^ c.toNat % 2 ^ IntKind.u8.bits : Nat) : Int) = ((255 - c).toNat : Int) := by
  have hc := c.toNat_lt
  have e1 : ((if IntKind.u8.signed = true then (-1 : Int) else IntKind.u8.max) % 2 ^ IntKind.u8.bits).toNat = 255 := by rfl
  have e2 : c.toNat % 2 ^ IntKind.u8.bits = c.toNat := Nat.mod_eq_of_lt (by show c.toNat < 256; omega)
  have e3 := xor255 ⟨c.toNat, by omega⟩
  have e4 : (255 - c).toNat = 255 - c.toNat := by
    rw [UInt8.toNat_sub]
    have : (255 : UInt8).toNat = 255 := rfl
    omega
  simp only at e3
  rw [e1, e2, e3, e4, w8 (by omega)]
/-- A block is made of 128 or 1024 bytes. -/
theorem c_bMake {w0 : World} {X : Nat → Prop} {m : Mem} {v : Value} {no : UInt8} {d : List UInt8} {crc : Bool} {Q : Value → Mem → Prop} (hp : Part L0 m) (hr : RdV X m 1 v (d.map byteV) d.length) (hL : d.length = 128 ∨ d.length = 1024)
    (hq : ∀ m' b, Old m m' → m.next ≤ b → b < m'.next → m'.get b = .own ((blkL no d crc).map byteV) 5 → Q (.tuple ⟨[.slice (some ⟨b, 0, none⟩) (blkL no d crc).length 1, .bool true]⟩) m') :
    AbC Tryz.prog w0 36 [.agg ⟨[.int .u8 (no.toNat : Int), v]⟩, .bool crc] m Q := by
  refine AbC_fn ok36 (by simp) ?_
  obtain ⟨lead, hlead⟩ : ∃ lead : UInt8, lead = if d.length = 128 then 1 else 2 := ⟨_, rfl⟩
  have hcv := com8 no
  have h0 := Sep.ofOld hp
  have h1 := h0.push (.own [.int .u8 (no.toNat : Int), v] 90)
  have hrr := hr.o
  have key : ∀ (fr : Fr), fr 1 = .bool crc → fr 2 = .pointer (some ⟨m.next, 0, none⟩) → fr 6 = .int .u8 (lead.toNat : Int) →
      AbW Tryz.prog w0 rc36_0 (bodyA [.mv (.tmp 4), .mv (.tmp 5)] Q) fr (m.push (.own [.int .u8 (no.toNat : Int), v] 90)) := by
    intro fr t1 t2 t6
    obtain ⟨m1, hm1⟩ : ∃ m1, m.push (.own [.int .u8 (no.toNat : Int), v] 90) = m1 := ⟨_, rfl⟩
    have n1 : m1.next = m.next + 1 := by subst hm1; rfl
    rw [hm1] at h1 ⊢
    clear hm1
    have g1 := h1.get 0 rfl
    simp -implicitDefEqProofs (disch := first | assumption | (simp only [wnA]; done) | (simp only [wnA]; omega) | omega | fail) [rc36_0, wkA, retV, stabOk, dC, ev, fillD, pickCells, putAt, bnd, slD, List.getElem?_cons_zero, List.getElem?_cons_succ, dR.eq_20, Mem.cell, Mem.row, wmA, t1, t2, t6, hcv, g1]
    refine SK_bslS h1 (cs := [lead, no, 255 - no].map byteV) (by simp [fillD, pickCells, wkA, retV, stabOk, dC, ev, fillD, pickCells, putAt, bnd, slD, List.getElem?_cons_zero, List.getElem?_cons_succ, dR.eq_20, t6, hcv, byteV, g1]) (by simp) fun b m2 h2 hb n2 => ?_
    have g2 := h2.get 1 rfl
    simp -implicitDefEqProofs (disch := first | assumption | (simp only [wnA]; done) | (simp only [wnA]; omega) | omega | fail) [wkA, retV, stabOk, dC, ev, fillD, pickCells, putAt, bnd, slD, List.getElem?_cons_zero, List.getElem?_cons_succ, dR.eq_20, Mem.cell, Mem.row, wmA, t1, t2, t6, hcv, g2]
    have hr2 := (hrr.sep h2).sl
    refine SK_apS h2 0 (n := 3) (k := d.length) (ys := d.map byteV) rfl (by simp [wkA, retV, stabOk, dC, ev, fillD, pickCells, putAt, bnd, slD, List.getElem?_cons_zero, List.getElem?_cons_succ, dR.eq_20, slV]) (by simp) (by simp) (by simp [wkA, retV, stabOk, dC, ev, fillD, pickCells, putAt, bnd, slD, List.getElem?_cons_zero, List.getElem?_cons_succ, dR.eq_20]; exact hr2.elems) (by simp [wkA, retV, stabOk, dC, ev, fillD, pickCells, putAt, bnd, slD, List.getElem?_cons_zero, List.getElem?_cons_succ, dR.eq_20]; exact hr2.lenV) (byteV_oneC _) (by omega) (by unfold maxLen; omega) (by simp) fun ob3 m3 h3 hn3 _ => ?_
    have g3 := h3.get 1 rfl
    have hr3 := (hrr.sep h3).sl
    simp -implicitDefEqProofs (disch := first | assumption | (simp only [wnA]; done) | (simp only [wnA]; omega) | omega | fail) [wkA, retV, stabOk, dC, ev, fillD, pickCells, putAt, bnd, slD, List.getElem?_cons_zero, List.getElem?_cons_succ, dR.eq_20, Mem.cell, Mem.row, wmA, t1, t2, t6, hcv, g3]
    refine c_trailer hr3 (by unfold maxLen; omega) ?_
    have h4 := h3.push (.own ((trailL d crc).map byteV) 5)
    obtain ⟨m4, hm4⟩ : ∃ m4, m3.push (.own ((trailL d crc).map byteV) 5) = m4 := ⟨_, rfl⟩
    rw [hm4] at h4 ⊢
    obtain ⟨b4, hb4⟩ : ∃ b4, m3.next = b4 := ⟨_, rfl⟩
    rw [hb4] at h4 ⊢
    have hl4 := trail_len d crc
    have hr4 := (h4.slO 0 (k := trN crc) (sz := 1) rfl (by simp [hl4]) (fun h => by cases h)).read
    have htr : 1 ≤ trN crc ∧ trN crc ≤ 2 := by cases crc <;> decide
    simp -implicitDefEqProofs (disch := first | assumption | (simp only [wnA]; done) | (simp only [wnA]; omega) | omega | fail) [wkA, retV, stabOk, dC, ev, fillD, pickCells, putAt, bnd, slD, List.getElem?_cons_zero, List.getElem?_cons_succ, dR.eq_20, Mem.cell, Mem.row, wmA, t1, t2, t6, hcv]
    refine SK_apS h4 1 (n := 3 + d.length) (k := trN crc) (ys := (trailL d crc).map byteV) rfl (by simp [wkA, retV, stabOk, dC, ev, fillD, pickCells, putAt, bnd, slD, List.getElem?_cons_zero, List.getElem?_cons_succ, dR.eq_20]) (by simp; omega) hn3 (by simp [wkA, retV, stabOk, dC, ev, fillD, pickCells, putAt, bnd, slD, List.getElem?_cons_zero, List.getElem?_cons_succ, dR.eq_20]; exact hr4.elems) (by simp [wkA, retV, stabOk, dC, ev, fillD, pickCells, putAt, bnd, slD, List.getElem?_cons_zero, List.getElem?_cons_succ, dR.eq_20, lenV]) (byteV_oneC _) (by omega) (by unfold maxLen; omega) (by simp [hl4]) fun ob5 m5 h5 hn5 _ => ?_
    simp -implicitDefEqProofs (disch := first | assumption | (simp only [wnA]; done) | (simp only [wnA]; omega) | omega | fail) [wkA, retV, stabOk, dC, ev, fillD, pickCells, putAt, bnd, slD, List.getElem?_cons_zero, List.getElem?_cons_succ, dR.eq_20, Mem.cell, Mem.row, wmA]
    cases ob5 with
    | none => exact absurd (hn5 rfl) (by omega)
    | some b5 =>
      have e5 : [lead, no, 255 - no].map byteV ++ d.map byteV ++ (trailL d crc).map byteV = (blkL no d crc).map byteV := by
        rw [blkL, ← hlead]; simp
      have h5 := h5
      have g5 := h5.get 1 rfl
      rw [e5] at g5
      have := hq m5 b5 h5.toOld (by have := h5.nv 1 rfl; omega) (h5.lt 1 rfl) g5
      rw [blk_len] at this
      exact this
  rcases hL with hL | hL
  · rw [if_pos hL] at hlead
    subst hlead
    have hs := hr.sl.slen
    rw [hL] at hs
    simp -implicitDefEqProofs (disch := first | assumption | (simp only [wnA]; done) | (simp only [wnA]; omega) | omega | fail) [rc36, ro36, wkA, retV, stabOk, dC, ev, fillD, pickCells, putAt, bnd, slD, List.getElem?_cons_zero, List.getElem?_cons_succ, dR.eq_20, Mem.cell, Mem.row, wmA, hs]
    exact key _ (by simp [frA_at]) (by simp) (by first | rfl | simp)
  · rw [if_neg (by omega)] at hlead
    subst hlead
    have hs := hr.sl.slen
    rw [hL] at hs
    simp -implicitDefEqProofs (disch := first | assumption | (simp only [wnA]; done) | (simp only [wnA]; omega) | omega | fail) [rc36, ro36, wkA, retV, stabOk, dC, ev, fillD, pickCells, putAt, bnd, slD, List.getElem?_cons_zero, List.getElem?_cons_succ, dR.eq_20, Mem.cell, Mem.row, wmA, hs]
    exact key _ (by simp [frA_at]) (by simp) (by first | rfl | simp)
end Go.Proofs.YtiapjjgmmiifmaaGreatDoor.Ab
