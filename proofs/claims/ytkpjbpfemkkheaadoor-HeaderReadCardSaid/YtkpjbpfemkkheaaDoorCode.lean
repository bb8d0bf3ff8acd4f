/- The resolved codes of the functions that are walked, and that the program has them. -/
import Derived.Test.YtkpjbpfemkkheaaDoorAb17
import Derived.Test.YtkpjbpfemkkheaaDoorProg
import Derived.KernelRfl
set_option maxHeartbeats 4000000
namespace Go.Proofs.YtkpjbpfemkkheaaDoor.Ab
open Go Go.RowKit
/-! gosem.cut.init -/

def rc2 : RC := (.run [⟨(some 0), none, (.c (.fn 1 [])), []⟩])
def ce2 : List (Nat × List Nat × List Nat) := []
def ro2 : List RO := []
theorem ok2 : okFn Tryd.prog 2 1 ce2 = some (rc2, ro2) := by kernel_rfl
/-! lifeline/lifelinelaw05.HeaderName -/
def rc3_0 : RC := (.seq (.run [⟨(some 5), none, (.r (.mv (.tmp 0))), []⟩, ⟨(some 6), none, (.c (.fn 10 [(.tmp 5)])), []⟩, ⟨(some 7), none, (.r (.mv (.tmp 0))), []⟩, ⟨(some 8), none, (.c (.fn 11 [(.tmp 7)])), []⟩, ⟨(some 9), none, (.r (.eq false .bool (.tmp 6) (.tmp 8))), []⟩, ⟨(some 2), none, (.a (.tmp 9)), []⟩])
  .ret)
def rc3 : RC := (.seq (.run [⟨(some 2), none, (.a (.const (.bool false))), []⟩])
  (.seq (.seq (.run [⟨(some 3), none, (.c (.fn 9 [])), []⟩, ⟨(some 4), none, (.r (.not (.tmp 3))), []⟩])
  (.cond (.tmp 4)
  (.seq (.run [⟨(some 2), none, (.a (.const (.bool false))), []⟩])
  .ret)
  .skip))
  rc3_0))
def ce3 : List (Nat × List Nat × List Nat) := []
def ro3 : List RO := [(.mv (.tmp 2))]
theorem ok3 : okFn Tryd.prog 3 10 ce3 = some (rc3, ro3) := by kernel_rfl
/-! lifeline/lifelinelaw05.HeaderTwo -/
def rc4_0 : RC := (.seq (.run [⟨(some 64), none, (.r (.ldn 4 (.tmp 5))), []⟩, ⟨(some 65), none, (.c (.fn 13 [(.tmp 64)])), []⟩, ⟨(some 63), none, (.r (.mv (.tmp 65))), []⟩, ⟨(some 66), none, (.r (.ext 0 (.tmp 63))), []⟩, ⟨(some 67), none, (.r (.ext 1 (.tmp 63))), []⟩, ⟨(some 17), none, (.a (.tmp 66)), []⟩, ⟨(some 18), none, (.a (.tmp 67)), []⟩])
  (.seq (.run [⟨(some 69), none, (.r (.ldn 4 (.tmp 6))), []⟩, ⟨(some 70), none, (.c (.fn 13 [(.tmp 69)])), []⟩, ⟨(some 68), none, (.r (.mv (.tmp 70))), []⟩, ⟨(some 71), none, (.r (.ext 0 (.tmp 68))), []⟩, ⟨(some 72), none, (.r (.ext 1 (.tmp 68))), []⟩, ⟨(some 19), none, (.a (.tmp 71)), []⟩, ⟨(some 20), none, (.a (.tmp 72)), []⟩])
  (.seq (.run [⟨(some 73), none, (.r (.mv (.tmp 18))), []⟩, ⟨(some 74), none, (.r (.not (.tmp 73))), []⟩, ⟨(some 75), none, (.r (.mv (.tmp 74))), []⟩, ⟨(some 76), (some (75, false)), (.r (.mv (.tmp 20))), []⟩, ⟨(some 77), (some (75, false)), (.r (.not (.tmp 76))), []⟩, ⟨(some 78), none, (.r (.pick (.tmp 75) (.const (.bool true)) (.tmp 77))), []⟩, ⟨(some 79), none, (.r (.mv (.tmp 78))), []⟩, ⟨(some 80), (some (79, false)), (.r (.mv (.tmp 17))), []⟩, ⟨(some 81), (some (79, false)), (.r (.b2s (.tmp 80))), []⟩, ⟨(some 82), (some (79, false)), (.r (.mv (.tmp 19))), []⟩, ⟨(some 83), (some (79, false)), (.r (.b2s (.tmp 82))), []⟩, ⟨(some 84), (some (79, false)), (.r (.bin .eql (.tmp 81) (.tmp 83))), []⟩, ⟨(some 85), (some (79, false)), (.r (.ldn 4 (.tmp 5))), []⟩, ⟨(some 86), (some (79, false)), (.r (.ldn 4 (.tmp 6))), []⟩, ⟨(some 87), (some (79, false)), (.r (.eq false (.recd [(0, 0, .str), (1, 0, .int), (2, 0, .int), (3, 0, .int)]) (.tmp 85) (.tmp 86))), []⟩, ⟨(some 88), (some (79, false)), (.r (.eq false .bool (.tmp 84) (.tmp 87))), []⟩, ⟨(some 89), none, (.r (.pick (.tmp 79) (.const (.bool true)) (.tmp 88))), []⟩, ⟨(some 10), none, (.a (.tmp 89)), []⟩])
  .ret)))
def rc4_1 : RC := (.seq (.run [⟨(some 23), none, (.r (.mv (.tmp 2))), []⟩, ⟨(some 24), none, (.c (.fn 12 [(.tmp 23)])), []⟩, ⟨(some 25), none, (.r (.mv (.tmp 4))), []⟩, ⟨(some 26), none, (.r (.bin .rem (.tmp 25) (.const (.int .u16 100)))), []⟩, ⟨(some 27), none, (.r (.cvi .i64 (.tmp 26))), []⟩, ⟨(some 28), none, (.r (.bld [(.string ⟨#[]⟩), (.int .i64 0), (.int .i64 0), (.int .i64 0)] [(0, 1, (.tmp 24)), (1, 1, (.tmp 27))])), []⟩, ⟨(some 29), none, (.r (.mv (.tmp 3))), []⟩, ⟨(some 30), none, (.c (.fn 12 [(.tmp 29)])), []⟩, ⟨(some 31), none, (.r (.mv (.tmp 4))), []⟩, ⟨(some 32), none, (.r (.bin .quo (.tmp 31) (.const (.int .u16 100)))), []⟩, ⟨(some 33), none, (.r (.bin .rem (.tmp 32) (.const (.int .u16 100)))), []⟩, ⟨(some 34), none, (.r (.cvi .i64 (.tmp 33))), []⟩, ⟨(some 35), none, (.r (.bld [(.string ⟨#[]⟩), (.int .i64 0), (.int .i64 0), (.int .i64 0)] [(0, 1, (.tmp 30)), (1, 1, (.tmp 34))])), []⟩, ⟨(some 11), none, (.e (.al [(.string ⟨#[]⟩), (.int .i64 0), (.int .i64 0), (.int .i64 0)] 25)), []⟩, ⟨(some 12), none, (.e (.al [(.string ⟨#[]⟩), (.int .i64 0), (.int .i64 0), (.int .i64 0)] 25)), []⟩, ⟨none, none, (.e (.st 4 (.tmp 11) (.tmp 28))), []⟩, ⟨none, none, (.e (.st 4 (.tmp 12) (.tmp 35))), []⟩])
  (.seq (.run [⟨(some 37), none, (.r (.ldn 4 (.tmp 11))), []⟩, ⟨(some 38), none, (.c (.fn 13 [(.tmp 37)])), []⟩, ⟨(some 36), none, (.r (.mv (.tmp 38))), []⟩, ⟨(some 39), none, (.r (.ext 0 (.tmp 36))), []⟩, ⟨(some 40), none, (.r (.ext 1 (.tmp 36))), []⟩, ⟨(some 13), none, (.a (.tmp 39)), []⟩, ⟨(some 14), none, (.a (.tmp 40)), []⟩])
  (.seq (.run [⟨(some 42), none, (.r (.ldn 4 (.tmp 12))), []⟩, ⟨(some 43), none, (.c (.fn 13 [(.tmp 42)])), []⟩, ⟨(some 41), none, (.r (.mv (.tmp 43))), []⟩, ⟨(some 44), none, (.r (.ext 0 (.tmp 41))), []⟩, ⟨(some 45), none, (.r (.ext 1 (.tmp 41))), []⟩, ⟨(some 15), none, (.a (.tmp 44)), []⟩, ⟨(some 16), none, (.a (.tmp 45)), []⟩])
  (.seq (.seq (.run [⟨(some 46), none, (.r (.mv (.tmp 14))), []⟩, ⟨(some 47), none, (.r (.not (.tmp 46))), []⟩, ⟨(some 48), none, (.r (.mv (.tmp 47))), []⟩, ⟨(some 49), (some (48, false)), (.r (.mv (.tmp 16))), []⟩, ⟨(some 50), (some (48, false)), (.r (.not (.tmp 49))), []⟩, ⟨(some 51), none, (.r (.pick (.tmp 48) (.const (.bool true)) (.tmp 50))), []⟩, ⟨(some 52), none, (.r (.mv (.tmp 51))), []⟩, ⟨(some 53), (some (52, false)), (.r (.mv (.tmp 13))), []⟩, ⟨(some 54), (some (52, false)), (.r (.b2s (.tmp 53))), []⟩, ⟨(some 55), (some (52, false)), (.r (.mv (.tmp 15))), []⟩, ⟨(some 56), (some (52, false)), (.r (.b2s (.tmp 55))), []⟩, ⟨(some 57), (some (52, false)), (.r (.bin .eql (.tmp 54) (.tmp 56))), []⟩, ⟨(some 58), (some (52, false)), (.r (.ldn 4 (.tmp 11))), []⟩, ⟨(some 59), (some (52, false)), (.r (.ldn 4 (.tmp 12))), []⟩, ⟨(some 60), (some (52, false)), (.r (.eq false (.recd [(0, 0, .str), (1, 0, .int), (2, 0, .int), (3, 0, .int)]) (.tmp 58) (.tmp 59))), []⟩, ⟨(some 61), (some (52, false)), (.r (.eq true .bool (.tmp 57) (.tmp 60))), []⟩, ⟨(some 62), none, (.r (.pick (.tmp 52) (.const (.bool true)) (.tmp 61))), []⟩])
  (.cond (.tmp 62)
  (.seq (.run [⟨(some 10), none, (.a (.const (.bool false))), []⟩])
  .ret)
  .skip))
  rc4_0))))
def rc4 : RC := (.seq (.run [⟨(some 5), none, (.e (.bx 25 (.tmp 0))), []⟩, ⟨(some 6), none, (.e (.bx 25 (.tmp 1))), []⟩, ⟨(some 10), none, (.a (.const (.bool false))), []⟩])
  (.seq (.seq (.run [⟨(some 21), none, (.c (.fn 9 [])), []⟩, ⟨(some 22), none, (.r (.not (.tmp 21))), []⟩])
  (.cond (.tmp 22)
  (.seq (.run [⟨(some 10), none, (.a (.const (.bool false))), []⟩])
  .ret)
  .skip))
  rc4_1))
def ce4 : List (Nat × List Nat × List Nat) := [(6, [0, 1, 2, 3, 4, 5, 6, 7, 8, 9, 10, 11, 12, 13, 14, 15, 16], [0, 1, 3, 7, 15, 31, 63, 127, 255, 127, 639, 2047, 127, 127, 12415, 32767, 65535]), (10, [0, 1, 2, 3, 4, 5, 6, 7, 8, 9, 10, 11, 12, 13, 14, 15, 16, 17], [0, 1, 3, 7, 15, 31, 63, 127, 255, 127, 639, 2047, 127, 127, 12415, 32767, 65535, 131071])]
def ro4 : List RO := [(.mv (.tmp 10))]
theorem ok4 : okFn Tryd.prog 4 90 ce4 = some (rc4, ro4) := by kernel_rfl
/-! lifeline/lifelinelaw05.HeaderMake -/
def rc5_0 : RC := (.seq (.run [⟨(some 59), none, (.r (.ldn 4 (.tmp 5))), []⟩, ⟨(some 60), none, (.c (.fn 13 [(.tmp 59)])), []⟩, ⟨(some 58), none, (.r (.mv (.tmp 60))), []⟩, ⟨(some 61), none, (.r (.ext 0 (.tmp 58))), []⟩, ⟨(some 62), none, (.r (.ext 1 (.tmp 58))), []⟩, ⟨(some 16), none, (.a (.tmp 61)), []⟩, ⟨(some 17), none, (.a (.tmp 62)), []⟩])
  (.seq (.run [⟨(some 63), none, (.r (.ldn 4 (.tmp 5))), []⟩, ⟨(some 65), none, (.r (.ldn 4 (.tmp 5))), []⟩, ⟨(some 64), none, (.c (.fn 16 [(.tmp 63)])), [(65, none, .ldn 4 (.tmp 5))]⟩, ⟨(some 66), none, (.c (.fn 17 [(.tmp 65)])), []⟩, ⟨(some 67), none, (.r (.eq false .bool (.tmp 64) (.tmp 66))), []⟩, ⟨(some 68), none, (.r (.mv (.tmp 67))), []⟩, ⟨(some 69), (some (68, true)), (.r (.mv (.tmp 17))), []⟩, ⟨(some 70), (some (68, true)), (.r (.ldn 4 (.tmp 5))), []⟩, ⟨(some 71), (some (68, true)), (.c (.fn 17 [(.tmp 70)])), []⟩, ⟨(some 72), (some (68, true)), (.r (.eq false .bool (.tmp 69) (.tmp 71))), []⟩, ⟨(some 73), none, (.r (.pick (.tmp 68) (.tmp 72) (.const (.bool false)))), []⟩, ⟨(some 74), none, (.r (.mv (.tmp 73))), []⟩, ⟨(some 75), (some (74, true)), (.r (.mv (.tmp 17))), []⟩, ⟨(some 76), (some (74, true)), (.r (.mv (.tmp 75))), []⟩, ⟨(some 77), (some (76, true)), (.r (.mv (.tmp 16))), []⟩, ⟨(some 78), (some (76, true)), (.r (.b2s (.tmp 77))), []⟩, ⟨(some 79), (some (76, true)), (.r (.ldn 4 (.tmp 5))), []⟩, ⟨(some 80), (some (76, true)), (.c (.fn 15 [(.tmp 79)])), [(78, (some (76, true)), .b2s (.tmp 77))]⟩, ⟨(some 81), (some (76, true)), (.r (.bin .eql (.tmp 78) (.tmp 80))), []⟩, ⟨(some 82), (some (74, true)), (.r (.pick (.tmp 76) (.tmp 81) (.const (.bool false)))), []⟩, ⟨(some 83), (some (74, true)), (.r (.mv (.tmp 82))), []⟩, ⟨(some 84), (some (83, false)), (.r (.mv (.tmp 17))), []⟩, ⟨(some 85), (some (83, false)), (.r (.not (.tmp 84))), []⟩, ⟨(some 86), (some (83, false)), (.r (.mv (.tmp 85))), []⟩, ⟨(some 87), (some (86, true)), (.r (.mv (.tmp 16))), []⟩, ⟨(some 88), (some (86, true)), (.r (.lenl (.tmp 87))), []⟩, ⟨(some 89), (some (86, true)), (.r (.bin .eql (.tmp 88) (.const (.int .i64 0)))), []⟩, ⟨(some 90), (some (83, false)), (.r (.pick (.tmp 86) (.tmp 89) (.const (.bool false)))), []⟩, ⟨(some 91), (some (74, true)), (.r (.pick (.tmp 83) (.const (.bool true)) (.tmp 90))), []⟩, ⟨(some 92), none, (.r (.pick (.tmp 74) (.tmp 91) (.const (.bool false)))), []⟩, ⟨(some 10), none, (.a (.tmp 92)), []⟩])
  .ret))
def rc5_1 : RC := (.seq (.run [⟨(some 20), none, (.r (.mv (.tmp 1))), []⟩, ⟨(some 21), none, (.c (.fn 12 [(.tmp 20)])), []⟩, ⟨(some 22), none, (.r (.mv (.tmp 2))), []⟩, ⟨(some 23), none, (.r (.cvi .i64 (.tmp 22))), []⟩, ⟨(some 24), none, (.r (.bin .rem (.tmp 23) (.const (.int .i64 8193)))), []⟩, ⟨(some 25), none, (.r (.mv (.tmp 3))), []⟩, ⟨(some 26), none, (.r (.cvi .i64 (.tmp 25))), []⟩, ⟨(some 27), none, (.r (.mv (.tmp 4))), []⟩, ⟨(some 28), none, (.r (.cvi .i64 (.tmp 27))), []⟩, ⟨(some 29), none, (.r (.bld [(.string ⟨#[]⟩), (.int .i64 0), (.int .i64 0), (.int .i64 0)] [(0, 1, (.tmp 21)), (1, 1, (.tmp 24)), (2, 1, (.tmp 26)), (3, 1, (.tmp 28))])), []⟩, ⟨(some 11), none, (.e (.al [(.string ⟨#[]⟩), (.int .i64 0), (.int .i64 0), (.int .i64 0)] 25)), []⟩, ⟨none, none, (.e (.st 4 (.tmp 11) (.tmp 29))), []⟩])
  (.seq (.run [⟨(some 31), none, (.r (.ldn 4 (.tmp 11))), []⟩, ⟨(some 32), none, (.c (.fn 13 [(.tmp 31)])), []⟩, ⟨(some 30), none, (.r (.mv (.tmp 32))), []⟩, ⟨(some 33), none, (.r (.ext 0 (.tmp 30))), []⟩, ⟨(some 34), none, (.r (.ext 1 (.tmp 30))), []⟩, ⟨(some 12), none, (.a (.tmp 33)), []⟩, ⟨(some 13), none, (.a (.tmp 34)), []⟩])
  (.seq (.run [⟨(some 36), none, (.r (.mv (.tmp 12))), []⟩, ⟨(some 37), none, (.c (.fn 14 [(.tmp 36)])), []⟩, ⟨(some 35), none, (.r (.mv (.tmp 37))), []⟩, ⟨(some 38), none, (.r (.ext 0 (.tmp 35))), []⟩, ⟨(some 39), none, (.r (.ext 1 (.tmp 35))), []⟩, ⟨(some 14), none, (.e (.al [(.string ⟨#[]⟩), (.int .i64 0), (.int .i64 0), (.int .i64 0)] 25)), []⟩, ⟨none, none, (.e (.st 4 (.tmp 14) (.tmp 38))), []⟩, ⟨(some 15), none, (.a (.tmp 39)), []⟩])
  (.seq (.seq (.run [⟨(some 40), none, (.r (.mv (.tmp 13))), []⟩, ⟨(some 41), none, (.r (.not (.tmp 40))), []⟩, ⟨(some 42), none, (.r (.mv (.tmp 41))), []⟩, ⟨(some 43), (some (42, false)), (.r (.mv (.tmp 12))), []⟩, ⟨(some 44), (some (42, false)), (.r (.b2s (.tmp 43))), []⟩, ⟨(some 45), (some (42, false)), (.r (.ldn 4 (.tmp 11))), []⟩, ⟨(some 46), (some (42, false)), (.c (.fn 15 [(.tmp 45)])), [(44, (some (42, false)), .b2s (.tmp 43))]⟩, ⟨(some 47), (some (42, false)), (.r (.bin .neq (.tmp 44) (.tmp 46))), []⟩, ⟨(some 48), none, (.r (.pick (.tmp 42) (.const (.bool true)) (.tmp 47))), []⟩, ⟨(some 49), none, (.r (.mv (.tmp 48))), []⟩, ⟨(some 50), (some (49, false)), (.r (.mv (.tmp 15))), []⟩, ⟨(some 51), (some (49, false)), (.r (.not (.tmp 50))), []⟩, ⟨(some 52), none, (.r (.pick (.tmp 49) (.const (.bool true)) (.tmp 51))), []⟩, ⟨(some 53), none, (.r (.mv (.tmp 52))), []⟩, ⟨(some 54), (some (53, false)), (.r (.ldn 4 (.tmp 14))), []⟩, ⟨(some 55), (some (53, false)), (.r (.ldn 4 (.tmp 11))), []⟩, ⟨(some 56), (some (53, false)), (.r (.eq true (.recd [(0, 0, .str), (1, 0, .int), (2, 0, .int), (3, 0, .int)]) (.tmp 54) (.tmp 55))), []⟩, ⟨(some 57), none, (.r (.pick (.tmp 53) (.const (.bool true)) (.tmp 56))), []⟩])
  (.cond (.tmp 57)
  (.seq (.run [⟨(some 10), none, (.a (.const (.bool false))), []⟩])
  .ret)
  .skip))
  rc5_0))))
def rc5 : RC := (.seq (.run [⟨(some 5), none, (.e (.bx 25 (.tmp 0))), []⟩, ⟨(some 10), none, (.a (.const (.bool false))), []⟩])
  (.seq (.seq (.run [⟨(some 18), none, (.c (.fn 9 [])), []⟩, ⟨(some 19), none, (.r (.not (.tmp 18))), []⟩])
  (.cond (.tmp 19)
  (.seq (.run [⟨(some 10), none, (.a (.const (.bool false))), []⟩])
  .ret)
  .skip))
  rc5_1))
def ce5 : List (Nat × List Nat × List Nat) := [(6, [0, 1, 2, 3, 4, 5, 6, 7, 8, 9, 10, 11, 12, 13, 14, 15, 16, 17], [0, 1, 3, 7, 15, 7, 39, 127, 255, 511, 1023, 2047, 4095, 8191, 16383, 16383, 65535, 131071]), (9, [0, 2, 1, 3, 4, 5, 6, 7, 8, 9, 10, 11, 12, 13, 14, 15, 16, 17, 18, 19, 20, 21, 22, 23, 24, 25, 26, 27, 28, 29, 30], [0, 1, 0, 7, 15, 31, 63, 63, 191, 511, 1023, 2047, 4095, 8191, 16383, 32767, 16383, 81919, 262143, 524287, 1048575, 2097151, 4194303, 8388607, 16777215, 33554431, 67108863, 134217727, 268435455, 536870911, 1073741823])]
def ro5 : List RO := [(.mv (.tmp 10))]
theorem ok5 : okFn Tryd.prog 5 93 ce5 = some (rc5, ro5) := by kernel_rfl
/-! lifeline/lifelinelaw05.HeaderRead -/
def rc6_0 : RC := (.seq (.block 1 (.seq (.run [⟨(some 43), none, (.r (.ia 1 (.tmp 39) (.tmp 41))), []⟩, ⟨(some 44), none, (.r (.ld (.tmp 43))), []⟩, ⟨(some 13), none, (.a (.tmp 44)), []⟩])
  (.seq (.run [⟨(some 46), none, (.r (.mv (.tmp 13))), []⟩, ⟨(some 47), none, (.c (.fn 14 [(.tmp 46)])), []⟩, ⟨(some 45), none, (.r (.mv (.tmp 47))), []⟩, ⟨(some 48), none, (.r (.ext 0 (.tmp 45))), []⟩, ⟨(some 49), none, (.r (.ext 1 (.tmp 45))), []⟩, ⟨(some 14), none, (.e (.al [(.string ⟨#[]⟩), (.int .i64 0), (.int .i64 0), (.int .i64 0)] 25)), []⟩, ⟨none, none, (.e (.st 4 (.tmp 14) (.tmp 48))), []⟩, ⟨(some 15), none, (.a (.tmp 49)), []⟩])
  (.seq (.run [⟨(some 50), none, (.r (.mv (.tmp 15))), []⟩, ⟨(some 51), none, (.r (.mv (.tmp 50))), []⟩, ⟨(some 52), (some (51, true)), (.r (.ldn 4 (.tmp 14))), []⟩, ⟨(some 53), (some (51, true)), (.c (.fn 17 [(.tmp 52)])), []⟩, ⟨(some 54), (some (51, true)), (.r (.not (.tmp 53))), []⟩, ⟨(some 55), (some (51, true)), (.r (.mv (.tmp 54))), []⟩, ⟨(some 56), (some (55, false)), (.r (.ldn 4 (.tmp 14))), []⟩, ⟨(some 58), (some (55, false)), (.r (.mv (.tmp 13))), []⟩, ⟨(some 59), (some (55, false)), (.r (.b2s (.tmp 58))), []⟩, ⟨(some 57), (some (55, false)), (.c (.fn 15 [(.tmp 56)])), [(59, (some (55, false)), .b2s (.tmp 58))]⟩, ⟨(some 60), (some (55, false)), (.r (.bin .neq (.tmp 57) (.tmp 59))), []⟩, ⟨(some 61), (some (51, true)), (.r (.pick (.tmp 55) (.const (.bool true)) (.tmp 60))), []⟩, ⟨(some 62), none, (.r (.pick (.tmp 51) (.tmp 61) (.const (.bool false)))), []⟩, ⟨(some 63), none, (.r (.mv (.tmp 62))), []⟩, ⟨(some 64), (some (63, false)), (.r (.mv (.tmp 15))), []⟩, ⟨(some 65), (some (63, false)), (.r (.not (.tmp 64))), []⟩, ⟨(some 66), (some (63, false)), (.r (.mv (.tmp 65))), []⟩, ⟨(some 67), (some (66, true)), (.r (.ldn 4 (.tmp 14))), []⟩, ⟨(some 68), (some (66, true)), (.r (.bld [(.string ⟨#[]⟩), (.int .i64 0), (.int .i64 0), (.int .i64 0)] [])), []⟩, ⟨(some 69), (some (66, true)), (.r (.eq true (.recd [(0, 0, .str), (1, 0, .int), (2, 0, .int), (3, 0, .int)]) (.tmp 67) (.tmp 68))), []⟩, ⟨(some 70), (some (63, false)), (.r (.pick (.tmp 66) (.tmp 69) (.const (.bool false)))), []⟩, ⟨(some 71), none, (.r (.pick (.tmp 63) (.const (.bool true)) (.tmp 70))), []⟩])
  (.cond (.tmp 71)
  (.seq (.run [⟨(some 10), none, (.a (.const (.bool false))), []⟩])
  .ret)
  .skip)))))
  (.run [⟨(some 72), none, (.r (.bin .add (.tmp 41) (.const (.int .i64 1)))), []⟩, ⟨(some 41), none, (.r (.mv (.tmp 72))), []⟩]))
def rc6_1 : RC := (.seq (.run [⟨(some 42), none, (.r (.bin .lss (.tmp 41) (.tmp 40))), []⟩])
  (.seq (.cond (.tmp 42)
  .skip
  (.exit 0))
  rc6_0))
def rc6_2 : RC := (.seq (.run [⟨(some 10), none, (.a (.const (.bool true))), []⟩])
  .ret)
def rc6_3 : RC := (.seq (.run [⟨(some 18), none, (.r (.mv (.tmp 0))), []⟩, ⟨(some 19), none, (.c (.fn 12 [(.tmp 18)])), []⟩, ⟨(some 20), none, (.r (.mv (.tmp 1))), []⟩, ⟨(some 21), none, (.r (.cvi .i64 (.tmp 20))), []⟩, ⟨(some 22), none, (.r (.bin .rem (.tmp 21) (.const (.int .i64 8193)))), []⟩, ⟨(some 23), none, (.r (.mv (.tmp 1))), []⟩, ⟨(some 24), none, (.r (.cvi .i64 (.tmp 23))), []⟩, ⟨(some 25), none, (.r (.bld [(.string ⟨#[]⟩), (.int .i64 0), (.int .i64 0), (.int .i64 0)] [(0, 1, (.tmp 19)), (1, 1, (.tmp 22)), (2, 1, (.tmp 24)), (3, 1, (.const (.int .i64 420)))])), []⟩, ⟨(some 26), none, (.c (.fn 15 [(.tmp 25)])), []⟩, ⟨(some 27), none, (.e (.s2b 5 (.tmp 26))), []⟩, ⟨(some 11), none, (.a (.tmp 27)), []⟩])
  (.seq (.run [⟨(some 28), none, (.r (.mv (.tmp 11))), []⟩, ⟨(some 29), none, (.r (.mv (.tmp 2))), []⟩, ⟨(some 30), none, (.r (.bin .rem (.tmp 29) (.const (.int .u8 128)))), []⟩, ⟨(some 31), none, (.r (.mv (.tmp 3))), []⟩, ⟨(some 32), none, (.r (.ia 1 (.tmp 28) (.tmp 30))), []⟩, ⟨none, none, (.e (.st 1 (.tmp 32) (.tmp 31))), []⟩])
  (.seq (.seq (.run [⟨(some 33), none, (.r (.mv (.tmp 11))), []⟩, ⟨(some 34), none, (.r (.mv (.tmp 4))), []⟩, ⟨(some 35), none, (.r (.mv (.tmp 11))), []⟩, ⟨(some 36), none, (.r (.mv (.tmp 2))), []⟩, ⟨(some 37), none, (.r (.bin .rem (.tmp 36) (.const (.int .u8 128)))), []⟩, ⟨(some 38), none, (.r (.sl 1 (.tmp 35) none (some (.tmp 37)))), []⟩, ⟨(some 39), none, (.e (.bsl 26 1 3 [(.slice none 0 0), (.slice none 0 0), (.slice none 0 0)] [(0, 1, (.tmp 33)), (1, 1, (.tmp 34)), (2, 1, (.tmp 38))])), []⟩, ⟨(some 40), none, (.r (.lenl (.tmp 39))), []⟩, ⟨(some 41), none, (.r (.mv (.const (.int .i64 0)))), []⟩])
  (.block 0 (.loop rc6_1)))
  rc6_2)))
def rc6 : RC := (.seq (.run [⟨(some 10), none, (.a (.const (.bool false))), []⟩])
  (.seq (.seq (.run [⟨(some 16), none, (.c (.fn 9 [])), []⟩, ⟨(some 17), none, (.r (.not (.tmp 16))), []⟩])
  (.cond (.tmp 17)
  (.seq (.run [⟨(some 10), none, (.a (.const (.bool false))), []⟩])
  .ret)
  .skip))
  rc6_3))
def ce6 : List (Nat × List Nat × List Nat) := [(9, [0, 1, 2, 3, 4, 5, 6, 8, 9, 7, 10, 11, 12, 13, 14, 15, 16, 17, 18, 19, 20, 21], [0, 1, 3, 7, 15, 31, 63, 127, 63, 319, 1023, 2047, 4095, 8191, 16383, 32767, 65535, 131071, 131071, 524287, 1048575, 2097151])]
def ro6 : List RO := [(.mv (.tmp 10))]
theorem ok6 : okFn Tryd.prog 6 73 ce6 = some (rc6, ro6) := by kernel_rfl
/-! lifeline/lifelinelaw05.HeaderEmpty -/
def rc7_0 : RC := (.seq (.run [⟨(some 12), none, (.c (.fn 18 [])), []⟩, ⟨(some 5), none, (.a (.tmp 12)), []⟩])
  (.seq (.run [⟨(some 14), none, (.r (.mv (.tmp 5))), []⟩, ⟨(some 15), none, (.c (.fn 14 [(.tmp 14)])), []⟩, ⟨(some 13), none, (.r (.mv (.tmp 15))), []⟩, ⟨(some 16), none, (.r (.ext 0 (.tmp 13))), []⟩, ⟨(some 17), none, (.r (.ext 1 (.tmp 13))), []⟩, ⟨(some 6), none, (.e (.al [(.string ⟨#[]⟩), (.int .i64 0), (.int .i64 0), (.int .i64 0)] 25)), []⟩, ⟨none, none, (.e (.st 4 (.tmp 6) (.tmp 16))), []⟩, ⟨(some 7), none, (.a (.tmp 17)), []⟩])
  (.seq (.run [⟨(some 19), none, (.r (.mv (.tmp 1))), []⟩, ⟨(some 20), none, (.c (.fn 12 [(.tmp 19)])), []⟩, ⟨(some 21), none, (.r (.bld [(.string ⟨#[]⟩), (.int .i64 0), (.int .i64 0), (.int .i64 0)] [(0, 1, (.tmp 20))])), []⟩, ⟨(some 22), none, (.c (.fn 13 [(.tmp 21)])), []⟩, ⟨(some 18), none, (.r (.mv (.tmp 22))), []⟩, ⟨(some 23), none, (.r (.ext 0 (.tmp 18))), []⟩, ⟨(some 24), none, (.r (.ext 1 (.tmp 18))), []⟩, ⟨(some 8), none, (.a (.tmp 23)), []⟩, ⟨(some 9), none, (.a (.tmp 24)), []⟩])
  (.seq (.run [⟨(some 25), none, (.r (.mv (.tmp 5))), []⟩, ⟨(some 26), none, (.r (.lenl (.tmp 25))), []⟩, ⟨(some 27), none, (.r (.bin .eql (.tmp 26) (.const (.int .i64 128)))), []⟩, ⟨(some 28), none, (.r (.mv (.tmp 27))), []⟩, ⟨(some 29), (some (28, true)), (.r (.mv (.tmp 5))), []⟩, ⟨(some 30), (some (28, true)), (.c (.fn 19 [(.tmp 29)])), []⟩, ⟨(some 31), none, (.r (.pick (.tmp 28) (.tmp 30) (.const (.bool false)))), []⟩, ⟨(some 32), none, (.r (.mv (.tmp 31))), []⟩, ⟨(some 33), (some (32, true)), (.r (.mv (.tmp 7))), []⟩, ⟨(some 34), (some (32, true)), (.r (.not (.tmp 33))), []⟩, ⟨(some 35), none, (.r (.pick (.tmp 32) (.tmp 34) (.const (.bool false)))), []⟩, ⟨(some 36), none, (.r (.mv (.tmp 35))), []⟩, ⟨(some 37), (some (36, true)), (.r (.mv (.tmp 9))), []⟩, ⟨(some 38), none, (.r (.pick (.tmp 36) (.tmp 37) (.const (.bool false)))), []⟩, ⟨(some 39), none, (.r (.mv (.tmp 38))), []⟩, ⟨(some 40), (some (39, true)), (.r (.mv (.tmp 8))), []⟩, ⟨(some 41), (some (39, true)), (.c (.fn 19 [(.tmp 40)])), []⟩, ⟨(some 42), (some (39, true)), (.r (.not (.tmp 41))), []⟩, ⟨(some 43), none, (.r (.pick (.tmp 39) (.tmp 42) (.const (.bool false)))), []⟩, ⟨(some 44), none, (.r (.mv (.tmp 43))), []⟩, ⟨(some 45), (some (44, true)), (.r (.mv (.tmp 0))), []⟩, ⟨(some 46), (some (44, true)), (.c (.fn 19 [(.tmp 45)])), []⟩, ⟨(some 47), (some (44, true)), (.r (.mv (.tmp 0))), []⟩, ⟨(some 48), (some (44, true)), (.r (.lenl (.tmp 47))), []⟩, ⟨(some 49), (some (44, true)), (.r (.bin .eql (.tmp 48) (.const (.int .i64 128)))), []⟩, ⟨(some 50), (some (44, true)), (.r (.mv (.tmp 49))), []⟩, ⟨(some 51), (some (50, true)), (.r (.mv (.tmp 0))), []⟩, ⟨(some 52), (some (50, true)), (.r (.ia 1 (.tmp 51) (.const (.int .i64 0)))), []⟩, ⟨(some 53), (some (50, true)), (.r (.ld (.tmp 52))), []⟩, ⟨(some 54), (some (50, true)), (.r (.bin .eql (.tmp 53) (.const (.int .u8 0)))), []⟩, ⟨(some 55), (some (44, true)), (.r (.pick (.tmp 50) (.tmp 54) (.const (.bool false)))), []⟩, ⟨(some 56), (some (44, true)), (.r (.eq false .bool (.tmp 46) (.tmp 55))), []⟩, ⟨(some 57), none, (.r (.pick (.tmp 44) (.tmp 56) (.const (.bool false)))), []⟩, ⟨(some 4), none, (.a (.tmp 57)), []⟩])
  .ret))))
def rc7 : RC := (.seq (.run [⟨(some 4), none, (.a (.const (.bool false))), []⟩])
  (.seq (.seq (.run [⟨(some 10), none, (.c (.fn 9 [])), []⟩, ⟨(some 11), none, (.r (.not (.tmp 10))), []⟩])
  (.cond (.tmp 11)
  (.seq (.run [⟨(some 4), none, (.a (.const (.bool false))), []⟩])
  .ret)
  .skip))
  rc7_0))
def ce7 : List (Nat × List Nat × List Nat) := []
def ro7 : List RO := [(.mv (.tmp 4))]
theorem ok7 : okFn Tryd.prog 7 58 ce7 = some (rc7, ro7) := by kernel_rfl
/-! lifeline/lifelinelaw05.HeaderShort -/
def rc8_0 : RC := (.seq (.run [⟨(some 29), none, (.r (.mv (.tmp 9))), []⟩, ⟨(some 30), none, (.r (.mv (.tmp 2))), []⟩, ⟨(some 31), none, (.r (.cvi .i64 (.tmp 30))), []⟩, ⟨(some 32), none, (.r (.bin .rem (.tmp 31) (.const (.int .i64 128)))), []⟩, ⟨(some 33), none, (.r (.sl 1 (.tmp 29) none (some (.tmp 32)))), []⟩, ⟨(some 34), none, (.c (.fn 14 [(.tmp 33)])), []⟩, ⟨(some 28), none, (.r (.mv (.tmp 34))), []⟩, ⟨(some 35), none, (.r (.ext 0 (.tmp 28))), []⟩, ⟨(some 36), none, (.r (.ext 1 (.tmp 28))), []⟩, ⟨(some 11), none, (.e (.al [(.string ⟨#[]⟩), (.int .i64 0), (.int .i64 0), (.int .i64 0)] 25)), []⟩, ⟨none, none, (.e (.st 4 (.tmp 11) (.tmp 35))), []⟩, ⟨(some 12), none, (.a (.tmp 36)), []⟩])
  (.seq (.run [⟨(some 38), none, (.r (.mv (.tmp 9))), []⟩, ⟨(some 39), none, (.e (.app 5 1 1 (.const (.slice none 0 0)) (.tmp 38))), []⟩, ⟨(some 40), none, (.r (.mv (.tmp 3))), []⟩, ⟨(some 41), none, (.e (.app 5 1 1 (.tmp 39) (.tmp 40))), []⟩, ⟨(some 42), none, (.c (.fn 14 [(.tmp 41)])), []⟩, ⟨(some 37), none, (.r (.mv (.tmp 42))), []⟩, ⟨(some 43), none, (.r (.ext 0 (.tmp 37))), []⟩, ⟨(some 44), none, (.r (.ext 1 (.tmp 37))), []⟩, ⟨(some 13), none, (.e (.al [(.string ⟨#[]⟩), (.int .i64 0), (.int .i64 0), (.int .i64 0)] 25)), []⟩, ⟨none, none, (.e (.st 4 (.tmp 13) (.tmp 43))), []⟩, ⟨(some 14), none, (.a (.tmp 44)), []⟩])
  (.seq (.run [⟨(some 46), none, (.r (.mv (.tmp 9))), []⟩, ⟨(some 47), none, (.c (.fn 14 [(.tmp 46)])), []⟩, ⟨(some 45), none, (.r (.mv (.tmp 47))), []⟩, ⟨(some 48), none, (.r (.ext 0 (.tmp 45))), []⟩, ⟨(some 49), none, (.r (.ext 1 (.tmp 45))), []⟩, ⟨(some 15), none, (.e (.al [(.string ⟨#[]⟩), (.int .i64 0), (.int .i64 0), (.int .i64 0)] 25)), []⟩, ⟨none, none, (.e (.st 4 (.tmp 15) (.tmp 48))), []⟩, ⟨(some 16), none, (.a (.tmp 49)), []⟩])
  (.seq (.run [⟨(some 50), none, (.r (.mv (.tmp 12))), []⟩, ⟨(some 51), none, (.r (.not (.tmp 50))), []⟩, ⟨(some 52), none, (.r (.mv (.tmp 51))), []⟩, ⟨(some 53), (some (52, true)), (.r (.mv (.tmp 14))), []⟩, ⟨(some 54), (some (52, true)), (.r (.mv (.tmp 3))), []⟩, ⟨(some 55), (some (52, true)), (.r (.lenl (.tmp 54))), []⟩, ⟨(some 56), (some (52, true)), (.r (.bin .eql (.tmp 55) (.const (.int .i64 0)))), []⟩, ⟨(some 57), (some (52, true)), (.r (.eq false .bool (.tmp 53) (.tmp 56))), []⟩, ⟨(some 58), none, (.r (.pick (.tmp 52) (.tmp 57) (.const (.bool false)))), []⟩, ⟨(some 59), none, (.r (.mv (.tmp 58))), []⟩, ⟨(some 60), (some (59, true)), (.r (.mv (.tmp 16))), []⟩, ⟨(some 61), none, (.r (.pick (.tmp 59) (.tmp 60) (.const (.bool false)))), []⟩, ⟨(some 62), none, (.r (.mv (.tmp 61))), []⟩, ⟨(some 63), (some (62, true)), (.r (.ldn 4 (.tmp 4))), []⟩, ⟨(some 64), (some (62, true)), (.c (.fn 16 [(.tmp 63)])), []⟩, ⟨(some 65), (some (62, true)), (.r (.mv (.tmp 64))), []⟩, ⟨(some 66), (some (65, false)), (.r (.ldn 4 (.tmp 4))), []⟩, ⟨(some 67), (some (65, false)), (.r (.bld [(.string ⟨#[]⟩), (.int .i64 0), (.int .i64 0), (.int .i64 0)] [(0, 1, (.const (.string ⟨#[97]⟩)))])), []⟩, ⟨(some 68), (some (65, false)), (.r (.eq true (.recd [(0, 0, .str), (1, 0, .int), (2, 0, .int), (3, 0, .int)]) (.tmp 66) (.tmp 67))), []⟩, ⟨(some 69), (some (62, true)), (.r (.pick (.tmp 65) (.const (.bool true)) (.tmp 68))), []⟩, ⟨(some 70), none, (.r (.pick (.tmp 62) (.tmp 69) (.const (.bool false)))), []⟩, ⟨(some 8), none, (.a (.tmp 70)), []⟩])
  .ret))))
def rc8_1 : RC := (.seq (.run [⟨(some 20), none, (.r (.mv (.tmp 1))), []⟩, ⟨(some 21), none, (.c (.fn 12 [(.tmp 20)])), []⟩, ⟨(some 22), none, (.r (.bld [(.string ⟨#[]⟩), (.int .i64 0), (.int .i64 0), (.int .i64 0)] [(0, 1, (.tmp 21)), (1, 1, (.const (.int .i64 5)))])), []⟩, ⟨(some 23), none, (.c (.fn 13 [(.tmp 22)])), []⟩, ⟨(some 19), none, (.r (.mv (.tmp 23))), []⟩, ⟨(some 24), none, (.r (.ext 0 (.tmp 19))), []⟩, ⟨(some 25), none, (.r (.ext 1 (.tmp 19))), []⟩, ⟨(some 9), none, (.a (.tmp 24)), []⟩, ⟨(some 10), none, (.a (.tmp 25)), []⟩])
  (.seq (.seq (.run [⟨(some 26), none, (.r (.mv (.tmp 10))), []⟩, ⟨(some 27), none, (.r (.not (.tmp 26))), []⟩])
  (.cond (.tmp 27)
  (.seq (.run [⟨(some 8), none, (.a (.const (.bool false))), []⟩])
  .ret)
  .skip))
  rc8_0))
def rc8 : RC := (.seq (.run [⟨(some 4), none, (.e (.bx 25 (.tmp 0))), []⟩, ⟨(some 8), none, (.a (.const (.bool false))), []⟩])
  (.seq (.seq (.run [⟨(some 17), none, (.c (.fn 9 [])), []⟩, ⟨(some 18), none, (.r (.not (.tmp 17))), []⟩])
  (.cond (.tmp 18)
  (.seq (.run [⟨(some 8), none, (.a (.const (.bool false))), []⟩])
  .ret)
  .skip))
  rc8_1))
def ce8 : List (Nat × List Nat × List Nat) := []
def ro8 : List RO := [(.mv (.tmp 8))]
theorem ok8 : okFn Tryd.prog 8 71 ce8 = some (rc8, ro8) := by kernel_rfl
/-! lifeline/lifelinelaw05.awake -/

def rc9 : RC := (.seq (.run [⟨(some 0), none, (.a (.const (.bool false))), []⟩])
  (.seq (.run [⟨(some 4), none, (.r (.bld [(.string ⟨#[]⟩), (.int .i64 0), (.int .i64 0), (.int .i64 0)] [(0, 1, (.const (.string ⟨#[97]⟩))), (1, 1, (.const (.int .i64 8))), (2, 1, (.const (.int .i64 9))), (3, 1, (.const (.int .i64 7)))])), []⟩, ⟨(some 5), none, (.c (.fn 13 [(.tmp 4)])), []⟩, ⟨(some 3), none, (.r (.mv (.tmp 5))), []⟩, ⟨(some 6), none, (.r (.ext 0 (.tmp 3))), []⟩, ⟨(some 7), none, (.r (.ext 1 (.tmp 3))), []⟩, ⟨(some 1), none, (.a (.tmp 6)), []⟩, ⟨(some 2), none, (.a (.tmp 7)), []⟩])
  (.seq (.run [⟨(some 8), none, (.r (.mv (.tmp 2))), []⟩, ⟨(some 9), none, (.r (.mv (.tmp 8))), []⟩, ⟨(some 10), (some (9, true)), (.r (.mv (.tmp 1))), []⟩, ⟨(some 11), (some (9, true)), (.r (.lenl (.tmp 10))), []⟩, ⟨(some 12), (some (9, true)), (.r (.bin .eql (.tmp 11) (.const (.int .i64 128)))), []⟩, ⟨(some 13), none, (.r (.pick (.tmp 9) (.tmp 12) (.const (.bool false)))), []⟩, ⟨(some 14), none, (.r (.mv (.tmp 13))), []⟩, ⟨(some 15), (some (14, true)), (.r (.mv (.tmp 1))), []⟩, ⟨(some 16), (some (14, true)), (.r (.sl 1 (.tmp 15) none (some (.const (.int .i64 9))))), []⟩, ⟨(some 17), (some (14, true)), (.r (.b2s (.tmp 16))), []⟩, ⟨(some 18), (some (14, true)), (.r (.bin .eql (.tmp 17) (.const (.string ⟨#[97, 0, 56, 32, 49, 49, 32, 55, 0]⟩)))), []⟩, ⟨(some 19), none, (.r (.pick (.tmp 14) (.tmp 18) (.const (.bool false)))), []⟩, ⟨(some 20), none, (.r (.mv (.tmp 19))), []⟩, ⟨(some 21), (some (20, true)), (.c (.fn 18 [])), []⟩, ⟨(some 22), (some (20, true)), (.c (.fn 19 [(.tmp 21)])), []⟩, ⟨(some 23), none, (.r (.pick (.tmp 20) (.tmp 22) (.const (.bool false)))), []⟩, ⟨(some 0), none, (.a (.tmp 23)), []⟩])
  .ret)))
def ce9 : List (Nat × List Nat × List Nat) := []
def ro9 : List RO := [(.mv (.tmp 0))]
theorem ok9 : okFn Tryd.prog 9 24 ce9 = some (rc9, ro9) := by kernel_rfl
/-! lifeline/header.Name -/
def rc10_0 : RC := (.seq (.block 1 (.seq (.run [⟨(some 10), none, (.r (.mv (.tmp 8))), []⟩, ⟨(some 3), none, (.a (.tmp 10)), []⟩])
  (.seq (.run [⟨(some 11), none, (.r (.mv (.tmp 0))), []⟩, ⟨(some 12), none, (.r (.mv (.tmp 3))), []⟩, ⟨(some 13), none, (.r (.ixs (.tmp 11) (.tmp 12))), []⟩, ⟨(some 4), none, (.a (.tmp 13)), []⟩])
  (.seq (.run [⟨(some 14), none, (.r (.mv (.tmp 4))), []⟩, ⟨(some 15), none, (.r (.bin .geq (.tmp 14) (.const (.int .u8 97)))), []⟩, ⟨(some 16), none, (.r (.mv (.tmp 15))), []⟩, ⟨(some 17), (some (16, true)), (.r (.mv (.tmp 4))), []⟩, ⟨(some 18), (some (16, true)), (.r (.bin .leq (.tmp 17) (.const (.int .u8 122)))), []⟩, ⟨(some 19), none, (.r (.pick (.tmp 16) (.tmp 18) (.const (.bool false)))), []⟩, ⟨(some 20), none, (.r (.mv (.tmp 19))), []⟩, ⟨(some 21), (some (20, false)), (.r (.mv (.tmp 4))), []⟩, ⟨(some 22), (some (20, false)), (.r (.bin .geq (.tmp 21) (.const (.int .u8 65)))), []⟩, ⟨(some 23), (some (20, false)), (.r (.mv (.tmp 22))), []⟩, ⟨(some 24), (some (23, true)), (.r (.mv (.tmp 4))), []⟩, ⟨(some 25), (some (23, true)), (.r (.bin .leq (.tmp 24) (.const (.int .u8 90)))), []⟩, ⟨(some 26), (some (20, false)), (.r (.pick (.tmp 23) (.tmp 25) (.const (.bool false)))), []⟩, ⟨(some 27), none, (.r (.pick (.tmp 20) (.const (.bool true)) (.tmp 26))), []⟩, ⟨(some 5), none, (.a (.tmp 27)), []⟩])
  (.seq (.run [⟨(some 28), none, (.r (.mv (.tmp 5))), []⟩, ⟨(some 29), none, (.r (.not (.tmp 28))), []⟩, ⟨(some 30), none, (.r (.mv (.tmp 29))), []⟩, ⟨(some 31), (some (30, true)), (.r (.mv (.tmp 3))), []⟩, ⟨(some 32), (some (30, true)), (.r (.bin .eql (.tmp 31) (.const (.int .i64 0)))), []⟩, ⟨(some 33), (some (30, true)), (.r (.mv (.tmp 32))), []⟩, ⟨(some 34), (some (33, false)), (.r (.mv (.tmp 4))), []⟩, ⟨(some 35), (some (33, false)), (.r (.bin .neq (.tmp 34) (.const (.int .u8 46)))), []⟩, ⟨(some 36), (some (33, false)), (.r (.mv (.tmp 35))), []⟩, ⟨(some 37), (some (36, true)), (.r (.mv (.tmp 4))), []⟩, ⟨(some 38), (some (36, true)), (.r (.bin .neq (.tmp 37) (.const (.int .u8 45)))), []⟩, ⟨(some 39), (some (33, false)), (.r (.pick (.tmp 36) (.tmp 38) (.const (.bool false)))), []⟩, ⟨(some 40), (some (33, false)), (.r (.mv (.tmp 39))), []⟩, ⟨(some 41), (some (40, true)), (.r (.mv (.tmp 4))), []⟩, ⟨(some 42), (some (40, true)), (.r (.bin .neq (.tmp 41) (.const (.int .u8 95)))), []⟩, ⟨(some 43), (some (33, false)), (.r (.pick (.tmp 40) (.tmp 42) (.const (.bool false)))), []⟩, ⟨(some 44), (some (33, false)), (.r (.mv (.tmp 43))), []⟩, ⟨(some 45), (some (44, true)), (.r (.mv (.tmp 4))), []⟩, ⟨(some 46), (some (44, true)), (.r (.bin .lss (.tmp 45) (.const (.int .u8 48)))), []⟩, ⟨(some 47), (some (44, true)), (.r (.mv (.tmp 46))), []⟩, ⟨(some 48), (some (47, false)), (.r (.mv (.tmp 4))), []⟩, ⟨(some 49), (some (47, false)), (.r (.bin .gtr (.tmp 48) (.const (.int .u8 57)))), []⟩, ⟨(some 50), (some (44, true)), (.r (.pick (.tmp 47) (.const (.bool true)) (.tmp 49))), []⟩, ⟨(some 51), (some (33, false)), (.r (.pick (.tmp 44) (.tmp 50) (.const (.bool false)))), []⟩, ⟨(some 52), (some (30, true)), (.r (.pick (.tmp 33) (.const (.bool true)) (.tmp 51))), []⟩, ⟨(some 53), none, (.r (.pick (.tmp 30) (.tmp 52) (.const (.bool false)))), []⟩])
  (.cond (.tmp 53)
  (.seq (.run [⟨(some 2), none, (.a (.const (.bool false))), []⟩])
  .ret)
  .skip))))))
  (.run [⟨(some 54), none, (.r (.bin .add (.tmp 8) (.const (.int .i64 1)))), []⟩, ⟨(some 8), none, (.r (.mv (.tmp 54))), []⟩]))
def rc10_1 : RC := (.seq (.run [⟨(some 9), none, (.r (.bin .lss (.tmp 8) (.tmp 7))), []⟩])
  (.seq (.cond (.tmp 9)
  .skip
  (.exit 0))
  rc10_0))
def rc10_2 : RC := (.seq (.run [⟨(some 55), none, (.r (.mv (.tmp 0))), []⟩, ⟨(some 56), none, (.r (.lens (.tmp 55))), []⟩, ⟨(some 57), none, (.r (.bin .gtr (.tmp 56) (.const (.int .i64 0)))), []⟩, ⟨(some 58), none, (.r (.mv (.tmp 57))), []⟩, ⟨(some 59), (some (58, true)), (.r (.mv (.tmp 0))), []⟩, ⟨(some 60), (some (58, true)), (.r (.lens (.tmp 59))), []⟩, ⟨(some 61), (some (58, true)), (.r (.bin .leq (.tmp 60) (.const (.int .i64 32)))), []⟩, ⟨(some 62), none, (.r (.pick (.tmp 58) (.tmp 61) (.const (.bool false)))), []⟩, ⟨(some 2), none, (.a (.tmp 62)), []⟩])
  .ret)
def rc10 : RC := (.seq (.run [⟨(some 2), none, (.a (.const (.bool false))), []⟩])
  (.seq (.seq (.run [⟨(some 6), none, (.r (.mv (.tmp 0))), []⟩, ⟨(some 7), none, (.r (.lens (.tmp 6))), []⟩, ⟨(some 8), none, (.r (.mv (.const (.int .i64 0)))), []⟩])
  (.block 0 (.loop rc10_1)))
  rc10_2))
def ce10 : List (Nat × List Nat × List Nat) := []
def ro10 : List RO := [(.mv (.tmp 2))]
theorem ok10 : okFn Tryd.prog 10 63 ce10 = some (rc10, ro10) := by kernel_rfl
/-! lifeline/lifelinelaw05.name -/
def rc11_0 : RC := (.seq (.run [⟨(some 28), none, (.r (.mv (.tmp 3))), []⟩, ⟨(some 29), none, (.r (.bin .eql (.tmp 28) (.const (.int .i64 0)))), []⟩, ⟨(some 30), none, (.r (.mv (.tmp 29))), []⟩, ⟨(some 31), (some (30, false)), (.r (.mv (.tmp 4))), []⟩, ⟨(some 32), (some (30, false)), (.r (.bin .neq (.tmp 31) (.const (.int .u8 46)))), []⟩, ⟨(some 33), (some (30, false)), (.r (.mv (.tmp 32))), []⟩, ⟨(some 34), (some (33, true)), (.r (.mv (.tmp 4))), []⟩, ⟨(some 35), (some (33, true)), (.r (.bin .neq (.tmp 34) (.const (.int .u8 45)))), []⟩, ⟨(some 36), (some (30, false)), (.r (.pick (.tmp 33) (.tmp 35) (.const (.bool false)))), []⟩, ⟨(some 37), (some (30, false)), (.r (.mv (.tmp 36))), []⟩, ⟨(some 38), (some (37, true)), (.r (.mv (.tmp 4))), []⟩, ⟨(some 39), (some (37, true)), (.r (.bin .neq (.tmp 38) (.const (.int .u8 95)))), []⟩, ⟨(some 40), (some (30, false)), (.r (.pick (.tmp 37) (.tmp 39) (.const (.bool false)))), []⟩, ⟨(some 41), (some (30, false)), (.r (.mv (.tmp 40))), []⟩, ⟨(some 42), (some (41, true)), (.r (.mv (.tmp 4))), []⟩, ⟨(some 43), (some (41, true)), (.r (.bin .geq (.tmp 42) (.const (.int .u8 48)))), []⟩, ⟨(some 44), (some (41, true)), (.r (.mv (.tmp 43))), []⟩, ⟨(some 45), (some (44, true)), (.r (.mv (.tmp 4))), []⟩, ⟨(some 46), (some (44, true)), (.r (.bin .leq (.tmp 45) (.const (.int .u8 57)))), []⟩, ⟨(some 47), (some (41, true)), (.r (.pick (.tmp 44) (.tmp 46) (.const (.bool false)))), []⟩, ⟨(some 48), (some (41, true)), (.r (.not (.tmp 47))), []⟩, ⟨(some 49), (some (30, false)), (.r (.pick (.tmp 41) (.tmp 48) (.const (.bool false)))), []⟩, ⟨(some 50), none, (.r (.pick (.tmp 30) (.const (.bool true)) (.tmp 49))), []⟩])
  (.cond (.tmp 50)
  (.seq (.run [⟨(some 2), none, (.a (.const (.bool false))), []⟩])
  .ret)
  .skip))
def rc11_1 : RC := (.seq (.block 1 (.seq (.run [⟨(some 11), none, (.r (.mv (.tmp 0))), []⟩, ⟨(some 12), none, (.r (.mv (.tmp 3))), []⟩, ⟨(some 13), none, (.r (.ixs (.tmp 11) (.tmp 12))), []⟩, ⟨(some 4), none, (.a (.tmp 13)), []⟩])
  (.seq (.seq (.run [⟨(some 14), none, (.r (.mv (.tmp 4))), []⟩, ⟨(some 15), none, (.r (.bin .geq (.tmp 14) (.const (.int .u8 97)))), []⟩, ⟨(some 16), none, (.r (.mv (.tmp 15))), []⟩, ⟨(some 17), (some (16, true)), (.r (.mv (.tmp 4))), []⟩, ⟨(some 18), (some (16, true)), (.r (.bin .leq (.tmp 17) (.const (.int .u8 122)))), []⟩, ⟨(some 19), none, (.r (.pick (.tmp 16) (.tmp 18) (.const (.bool false)))), []⟩, ⟨(some 20), none, (.r (.mv (.tmp 19))), []⟩, ⟨(some 21), (some (20, false)), (.r (.mv (.tmp 4))), []⟩, ⟨(some 22), (some (20, false)), (.r (.bin .geq (.tmp 21) (.const (.int .u8 65)))), []⟩, ⟨(some 23), (some (20, false)), (.r (.mv (.tmp 22))), []⟩, ⟨(some 24), (some (23, true)), (.r (.mv (.tmp 4))), []⟩, ⟨(some 25), (some (23, true)), (.r (.bin .leq (.tmp 24) (.const (.int .u8 90)))), []⟩, ⟨(some 26), (some (20, false)), (.r (.pick (.tmp 23) (.tmp 25) (.const (.bool false)))), []⟩, ⟨(some 27), none, (.r (.pick (.tmp 20) (.const (.bool true)) (.tmp 26))), []⟩])
  (.cond (.tmp 27)
  (.exit 1)
  .skip))
  rc11_0)))
  (.run [⟨(some 9), none, (.r (.mv (.tmp 3))), []⟩, ⟨(some 10), none, (.r (.bin .add (.tmp 9) (.const (.int .i64 1)))), []⟩, ⟨(some 3), none, (.a (.tmp 10)), []⟩]))
def rc11_2 : RC := (.seq (.seq (.run [⟨(some 5), none, (.r (.mv (.tmp 3))), []⟩, ⟨(some 6), none, (.r (.mv (.tmp 0))), []⟩, ⟨(some 7), none, (.r (.lens (.tmp 6))), []⟩, ⟨(some 8), none, (.r (.bin .lss (.tmp 5) (.tmp 7))), []⟩])
  (.cond (.tmp 8)
  .skip
  (.exit 0)))
  rc11_1)
def rc11_3 : RC := (.seq (.run [⟨(some 51), none, (.r (.mv (.tmp 0))), []⟩, ⟨(some 52), none, (.r (.lens (.tmp 51))), []⟩, ⟨(some 53), none, (.r (.bin .geq (.tmp 52) (.const (.int .i64 1)))), []⟩, ⟨(some 54), none, (.r (.mv (.tmp 53))), []⟩, ⟨(some 55), (some (54, true)), (.r (.mv (.tmp 0))), []⟩, ⟨(some 56), (some (54, true)), (.r (.lens (.tmp 55))), []⟩, ⟨(some 57), (some (54, true)), (.r (.bin .leq (.tmp 56) (.const (.int .i64 32)))), []⟩, ⟨(some 58), none, (.r (.pick (.tmp 54) (.tmp 57) (.const (.bool false)))), []⟩, ⟨(some 2), none, (.a (.tmp 58)), []⟩])
  .ret)
def rc11 : RC := (.seq (.run [⟨(some 2), none, (.a (.const (.bool false))), []⟩])
  (.seq (.seq (.run [⟨(some 3), none, (.a (.const (.int .i64 0))), []⟩])
  (.block 0 (.loop rc11_2)))
  rc11_3))
def ce11 : List (Nat × List Nat × List Nat) := []
def ro11 : List RO := [(.mv (.tmp 2))]
theorem ok11 : okFn Tryd.prog 11 59 ce11 = some (rc11, ro11) := by kernel_rfl
/-! lifeline/lifelinelaw05.Name -/
def rc12_0 : RC := (.seq (.block 1 (.seq (.run [⟨(some 10), none, (.r (.mv (.tmp 8))), []⟩, ⟨(some 11), none, (.r (.ia 1 (.tmp 6) (.tmp 8))), []⟩, ⟨(some 12), none, (.r (.ld (.tmp 11))), []⟩, ⟨(some 4), none, (.a (.tmp 10)), []⟩, ⟨(some 5), none, (.a (.tmp 12)), []⟩])
  (.seq (.run [⟨(some 13), none, (.r (.mv (.tmp 4))), []⟩, ⟨(some 14), none, (.r (.bin .lss (.tmp 13) (.const (.int .i64 8)))), []⟩])
  (.cond (.tmp 14)
  (.run [⟨(some 15), none, (.r (.mv (.tmp 3))), []⟩, ⟨(some 16), none, (.r (.mv (.tmp 5))), []⟩, ⟨(some 17), none, (.r (.bin .rem (.tmp 16) (.const (.int .u8 11)))), []⟩, ⟨(some 18), none, (.r (.mv (.tmp 5))), []⟩, ⟨(some 19), none, (.r (.bin .rem (.tmp 18) (.const (.int .u8 11)))), []⟩, ⟨(some 20), none, (.r (.bin .add (.tmp 19) (.const (.int .u8 1)))), []⟩, ⟨(some 21), none, (.r (.sls (.const (.string ⟨#[97, 98, 99, 88, 89, 90, 48, 49, 46, 45, 95]⟩)) (some (.tmp 17)) (some (.tmp 20)))), []⟩, ⟨(some 22), none, (.r (.bin .add (.tmp 15) (.tmp 21))), []⟩, ⟨(some 3), none, (.a (.tmp 22)), []⟩])
  .skip))))
  (.run [⟨(some 23), none, (.r (.bin .add (.tmp 8) (.const (.int .i64 1)))), []⟩, ⟨(some 8), none, (.r (.mv (.tmp 23))), []⟩]))
def rc12_1 : RC := (.seq (.run [⟨(some 9), none, (.r (.bin .lss (.tmp 8) (.tmp 7))), []⟩])
  (.seq (.cond (.tmp 9)
  .skip
  (.exit 0))
  rc12_0))
def rc12_2 : RC := (.seq (.run [⟨(some 24), none, (.r (.mv (.tmp 3))), []⟩, ⟨(some 2), none, (.a (.tmp 24)), []⟩])
  .ret)
def rc12 : RC := (.seq (.run [⟨(some 2), none, (.a (.const (.string ⟨#[]⟩))), []⟩])
  (.seq (.run [⟨(some 3), none, (.a (.const (.string ⟨#[102]⟩))), []⟩])
  (.seq (.seq (.run [⟨(some 6), none, (.r (.mv (.tmp 0))), []⟩, ⟨(some 7), none, (.r (.lenl (.tmp 6))), []⟩, ⟨(some 8), none, (.r (.mv (.const (.int .i64 0)))), []⟩])
  (.block 0 (.loop rc12_1)))
  rc12_2)))
def ce12 : List (Nat × List Nat × List Nat) := []
def ro12 : List RO := [(.mv (.tmp 2))]
theorem ok12 : okFn Tryd.prog 12 25 ce12 = some (rc12, ro12) := by kernel_rfl
/-! lifeline/header.Make -/
def rc13_0 : RC := (.seq (.run [⟨(some 9), none, (.r (.fa 1 (.tmp 1))), []⟩, ⟨(some 10), none, (.r (.ld (.tmp 9))), []⟩, ⟨(some 12), none, (.r (.fa 2 (.tmp 1))), []⟩, ⟨(some 13), none, (.r (.ld (.tmp 12))), []⟩, ⟨(some 15), none, (.r (.fa 3 (.tmp 1))), []⟩, ⟨(some 16), none, (.r (.ld (.tmp 15))), []⟩, ⟨(some 11), none, (.c (.fn 20 [(.tmp 10)])), [(13, none, .ld (.tmp 12)), (16, none, .ld (.tmp 15))]⟩, ⟨(some 14), none, (.c (.fn 21 [(.tmp 13), (.const (.int .i64 8))])), [(16, none, .ld (.tmp 15))]⟩, ⟨(some 17), none, (.c (.fn 21 [(.tmp 16), (.const (.int .i64 8))])), []⟩, ⟨(some 18), none, (.e (.bsl 9 1 3 [(.string ⟨#[]⟩), (.string ⟨#[]⟩), (.string ⟨#[]⟩)] [(0, 1, (.tmp 11)), (1, 1, (.tmp 14)), (2, 1, (.tmp 17))])), []⟩, ⟨(some 4), none, (.a (.tmp 18)), []⟩])
  (.seq (.run [⟨(some 19), none, (.e (.mks 5 1 (.int .u8 0) (.const (.int .i64 128)) (.const (.int .i64 128)))), []⟩, ⟨(some 5), none, (.a (.tmp 19)), []⟩])
  (.seq (.run [⟨(some 20), none, (.r (.mv (.tmp 5))), []⟩, ⟨(some 21), none, (.r (.fa 0 (.tmp 1))), []⟩, ⟨(some 22), none, (.r (.ld (.tmp 21))), []⟩, ⟨(some 23), none, (.r (.bin .add (.tmp 22) (.const (.string ⟨#[0]⟩)))), []⟩, ⟨(some 24), none, (.r (.mv (.tmp 4))), []⟩, ⟨(some 25), none, (.c (.fn 22 [(.tmp 24), (.const (.string ⟨#[32]⟩))])), [(22, none, .ld (.tmp 21))]⟩, ⟨(some 26), none, (.r (.bin .add (.tmp 23) (.tmp 25))), []⟩, ⟨(some 27), none, (.e (.cpy 1 (.tmp 20) (.tmp 26))), []⟩])
  (.seq (.run [⟨(some 28), none, (.r (.mv (.tmp 5))), []⟩, ⟨(some 2), none, (.a (.tmp 28)), []⟩, ⟨(some 3), none, (.a (.const (.bool true))), []⟩])
  .ret))))
def rc13 : RC := (.seq (.run [⟨(some 1), none, (.e (.bx 25 (.tmp 0))), []⟩, ⟨(some 2), none, (.a (.const (.slice none 0 0))), []⟩, ⟨(some 3), none, (.a (.const (.bool false))), []⟩])
  (.seq (.seq (.run [⟨(some 6), none, (.r (.ldn 4 (.tmp 1))), []⟩, ⟨(some 7), none, (.c (.fn 16 [(.tmp 6)])), []⟩, ⟨(some 8), none, (.r (.not (.tmp 7))), []⟩])
  (.cond (.tmp 8)
  (.seq (.run [⟨(some 2), none, (.a (.const (.slice none 0 0))), []⟩, ⟨(some 3), none, (.a (.const (.bool false))), []⟩])
  .ret)
  .skip))
  rc13_0))
def ce13 : List (Nat × List Nat × List Nat) := [(3, [0, 1, 3, 4, 6, 7, 2, 5, 8, 9, 10], [0, 1, 3, 0, 8, 31, 0, 64, 255, 511, 1023]), (5, [0, 1, 2, 3, 4, 5, 6, 7], [0, 0, 2, 6, 0, 16, 62, 127])]
def ro13 : List RO := [(.mv (.tmp 2)), (.mv (.tmp 3))]
theorem ok13 : okFn Tryd.prog 13 29 ce13 = some (rc13, ro13) := by kernel_rfl
/-! lifeline/header.Read -/
def rc14_0 : RC := (.seq (.run [⟨(some 75), none, (.r (.ldn 4 (.tmp 14))), []⟩, ⟨none, none, (.e (.st 4 (.tmp 2) (.tmp 75))), []⟩, ⟨(some 3), none, (.a (.const (.bool true))), []⟩])
  .ret)
def rc14_1 : RC := (.seq (.run [⟨(some 34), none, (.r (.mv (.tmp 7))), []⟩, ⟨(some 35), none, (.r (.ia 1 (.tmp 34) (.const (.int .i64 0)))), []⟩, ⟨(some 36), none, (.r (.ld (.tmp 35))), []⟩, ⟨(some 37), none, (.c (.fn 26 [(.tmp 36), (.const (.int .i64 10)), (.const (.int .i64 8192))])), []⟩, ⟨(some 33), none, (.r (.mv (.tmp 37))), []⟩, ⟨(some 38), none, (.r (.ext 0 (.tmp 33))), []⟩, ⟨(some 39), none, (.r (.ext 1 (.tmp 33))), []⟩, ⟨(some 8), none, (.a (.tmp 38)), []⟩, ⟨(some 9), none, (.a (.tmp 39)), []⟩])
  (.seq (.run [⟨(some 41), none, (.r (.mv (.tmp 7))), []⟩, ⟨(some 42), none, (.r (.ia 1 (.tmp 41) (.const (.int .i64 1)))), []⟩, ⟨(some 43), none, (.r (.ld (.tmp 42))), []⟩, ⟨(some 44), none, (.c (.fn 26 [(.tmp 43), (.const (.int .i64 8)), (.const (.int .i64 4294967295))])), []⟩, ⟨(some 40), none, (.r (.mv (.tmp 44))), []⟩, ⟨(some 45), none, (.r (.ext 0 (.tmp 40))), []⟩, ⟨(some 46), none, (.r (.ext 1 (.tmp 40))), []⟩, ⟨(some 10), none, (.a (.tmp 45)), []⟩, ⟨(some 11), none, (.a (.tmp 46)), []⟩])
  (.seq (.run [⟨(some 48), none, (.r (.mv (.tmp 7))), []⟩, ⟨(some 49), none, (.r (.ia 1 (.tmp 48) (.const (.int .i64 2)))), []⟩, ⟨(some 50), none, (.r (.ld (.tmp 49))), []⟩, ⟨(some 51), none, (.c (.fn 26 [(.tmp 50), (.const (.int .i64 8)), (.const (.int .i64 65535))])), []⟩, ⟨(some 47), none, (.r (.mv (.tmp 51))), []⟩, ⟨(some 52), none, (.r (.ext 0 (.tmp 47))), []⟩, ⟨(some 53), none, (.r (.ext 1 (.tmp 47))), []⟩, ⟨(some 12), none, (.a (.tmp 52)), []⟩, ⟨(some 13), none, (.a (.tmp 53)), []⟩])
  (.seq (.run [⟨(some 54), none, (.r (.mv (.tmp 4))), []⟩, ⟨(some 55), none, (.r (.mv (.tmp 8))), []⟩, ⟨(some 56), none, (.r (.mv (.tmp 10))), []⟩, ⟨(some 57), none, (.r (.mv (.tmp 12))), []⟩, ⟨(some 58), none, (.r (.bld [(.string ⟨#[]⟩), (.int .i64 0), (.int .i64 0), (.int .i64 0)] [(0, 1, (.tmp 54)), (1, 1, (.tmp 55)), (2, 1, (.tmp 56)), (3, 1, (.tmp 57))])), []⟩, ⟨(some 14), none, (.e (.al [(.string ⟨#[]⟩), (.int .i64 0), (.int .i64 0), (.int .i64 0)] 25)), []⟩, ⟨none, none, (.e (.st 4 (.tmp 14) (.tmp 58))), []⟩])
  (.seq (.seq (.run [⟨(some 59), none, (.r (.mv (.tmp 9))), []⟩, ⟨(some 60), none, (.r (.not (.tmp 59))), []⟩, ⟨(some 61), none, (.r (.mv (.tmp 60))), []⟩, ⟨(some 62), (some (61, false)), (.r (.mv (.tmp 11))), []⟩, ⟨(some 63), (some (61, false)), (.r (.not (.tmp 62))), []⟩, ⟨(some 64), none, (.r (.pick (.tmp 61) (.const (.bool true)) (.tmp 63))), []⟩, ⟨(some 65), none, (.r (.mv (.tmp 64))), []⟩, ⟨(some 66), (some (65, false)), (.r (.mv (.tmp 13))), []⟩, ⟨(some 67), (some (65, false)), (.r (.not (.tmp 66))), []⟩, ⟨(some 68), none, (.r (.pick (.tmp 65) (.const (.bool true)) (.tmp 67))), []⟩, ⟨(some 69), none, (.r (.mv (.tmp 68))), []⟩, ⟨(some 70), (some (69, false)), (.r (.ldn 4 (.tmp 14))), []⟩, ⟨(some 71), (some (69, false)), (.c (.fn 16 [(.tmp 70)])), []⟩, ⟨(some 72), (some (69, false)), (.r (.not (.tmp 71))), []⟩, ⟨(some 73), none, (.r (.pick (.tmp 69) (.const (.bool true)) (.tmp 72))), []⟩])
  (.cond (.tmp 73)
  (.seq (.run [⟨(some 74), none, (.r (.bld [(.string ⟨#[]⟩), (.int .i64 0), (.int .i64 0), (.int .i64 0)] [])), []⟩, ⟨none, none, (.e (.st 4 (.tmp 2) (.tmp 74))), []⟩, ⟨(some 3), none, (.a (.const (.bool false))), []⟩])
  .ret)
  .skip))
  rc14_0)))))
def rc14_2 : RC := (.seq (.run [⟨(some 20), none, (.r (.mv (.tmp 0))), []⟩, ⟨(some 21), none, (.r (.b2s (.tmp 20))), []⟩, ⟨(some 22), none, (.c (.fn 23 [(.tmp 21), (.const (.string ⟨#[0]⟩))])), []⟩, ⟨(some 19), none, (.r (.mv (.tmp 22))), []⟩, ⟨(some 23), none, (.r (.ext 0 (.tmp 19))), []⟩, ⟨(some 24), none, (.r (.ext 1 (.tmp 19))), []⟩, ⟨(some 25), none, (.r (.ext 2 (.tmp 19))), []⟩, ⟨(some 4), none, (.a (.tmp 23)), []⟩, ⟨(some 5), none, (.a (.tmp 24)), []⟩, ⟨(some 6), none, (.a (.tmp 25)), []⟩])
  (.seq (.run [⟨(some 26), none, (.r (.mv (.tmp 5))), []⟩, ⟨(some 27), none, (.c (.fn 25 [(.tmp 26), (.const (.string ⟨#[0]⟩))])), []⟩, ⟨(some 28), none, (.c (.fn 24 [(.tmp 27), (.const (.string ⟨#[32]⟩))])), []⟩, ⟨(some 7), none, (.a (.tmp 28)), []⟩])
  (.seq (.seq (.run [⟨(some 29), none, (.r (.mv (.tmp 7))), []⟩, ⟨(some 30), none, (.r (.lenl (.tmp 29))), []⟩, ⟨(some 31), none, (.r (.bin .neq (.tmp 30) (.const (.int .i64 3)))), []⟩])
  (.cond (.tmp 31)
  (.seq (.run [⟨(some 32), none, (.r (.bld [(.string ⟨#[]⟩), (.int .i64 0), (.int .i64 0), (.int .i64 0)] [])), []⟩, ⟨none, none, (.e (.st 4 (.tmp 2) (.tmp 32))), []⟩, ⟨(some 3), none, (.a (.const (.bool false))), []⟩])
  .ret)
  .skip))
  rc14_1)))
def rc14 : RC := (.seq (.run [⟨(some 2), none, (.e (.al [(.string ⟨#[]⟩), (.int .i64 0), (.int .i64 0), (.int .i64 0)] 25)), []⟩, ⟨(some 3), none, (.a (.const (.bool false))), []⟩])
  (.seq (.seq (.run [⟨(some 15), none, (.r (.mv (.tmp 0))), []⟩, ⟨(some 16), none, (.r (.lenl (.tmp 15))), []⟩, ⟨(some 17), none, (.r (.bin .neq (.tmp 16) (.const (.int .i64 128)))), []⟩])
  (.cond (.tmp 17)
  (.seq (.run [⟨(some 18), none, (.r (.bld [(.string ⟨#[]⟩), (.int .i64 0), (.int .i64 0), (.int .i64 0)] [])), []⟩, ⟨none, none, (.e (.st 4 (.tmp 2) (.tmp 18))), []⟩, ⟨(some 3), none, (.a (.const (.bool false))), []⟩])
  .ret)
  .skip))
  rc14_2))
def ce14 : List (Nat × List Nat × List Nat) := []
def ro14 : List RO := [(.ldn 4 (.tmp 2)), (.mv (.tmp 3))]
theorem ok14 : okFn Tryd.prog 14 76 ce14 = some (rc14, ro14) := by kernel_rfl
/-! lifeline/lifelinelaw05.made -/

def rc15 : RC := (.seq (.run [⟨(some 1), none, (.e (.bx 25 (.tmp 0))), []⟩, ⟨(some 2), none, (.a (.const (.string ⟨#[]⟩))), []⟩])
  (.seq (.run [⟨(some 4), none, (.r (.fa 0 (.tmp 1))), []⟩, ⟨(some 5), none, (.r (.ld (.tmp 4))), []⟩, ⟨(some 6), none, (.r (.bin .add (.tmp 5) (.const (.string ⟨#[0]⟩)))), []⟩, ⟨(some 7), none, (.r (.fa 1 (.tmp 1))), []⟩, ⟨(some 8), none, (.r (.ld (.tmp 7))), []⟩, ⟨(some 12), none, (.r (.fa 2 (.tmp 1))), []⟩, ⟨(some 13), none, (.r (.ld (.tmp 12))), []⟩, ⟨(some 17), none, (.r (.fa 3 (.tmp 1))), []⟩, ⟨(some 18), none, (.r (.ld (.tmp 17))), []⟩, ⟨(some 9), none, (.c (.fn 27 [(.tmp 8), (.const (.int .i64 10))])), [(5, none, .ld (.tmp 4)), (13, none, .ld (.tmp 12)), (18, none, .ld (.tmp 17))]⟩, ⟨(some 10), none, (.r (.bin .add (.tmp 6) (.tmp 9))), []⟩, ⟨(some 11), none, (.r (.bin .add (.tmp 10) (.const (.string ⟨#[32]⟩)))), []⟩, ⟨(some 14), none, (.c (.fn 27 [(.tmp 13), (.const (.int .i64 8))])), [(5, none, .ld (.tmp 4)), (18, none, .ld (.tmp 17))]⟩, ⟨(some 15), none, (.r (.bin .add (.tmp 11) (.tmp 14))), []⟩, ⟨(some 16), none, (.r (.bin .add (.tmp 15) (.const (.string ⟨#[32]⟩)))), []⟩, ⟨(some 19), none, (.c (.fn 27 [(.tmp 18), (.const (.int .i64 8))])), [(5, none, .ld (.tmp 4))]⟩, ⟨(some 20), none, (.r (.bin .add (.tmp 16) (.tmp 19))), []⟩, ⟨(some 3), none, (.a (.tmp 20)), []⟩])
  (.seq (.run [⟨(some 21), none, (.r (.mv (.tmp 3))), []⟩, ⟨(some 22), none, (.r (.mv (.tmp 3))), []⟩, ⟨(some 23), none, (.r (.lens (.tmp 22))), []⟩, ⟨(some 24), none, (.r (.bin .sub (.const (.int .i64 128)) (.tmp 23))), []⟩, ⟨(some 25), none, (.e (.mks 5 1 (.int .u8 0) (.tmp 24) (.tmp 24))), []⟩, ⟨(some 26), none, (.r (.b2s (.tmp 25))), []⟩, ⟨(some 27), none, (.r (.bin .add (.tmp 21) (.tmp 26))), []⟩, ⟨(some 2), none, (.a (.tmp 27)), []⟩])
  .ret)))
def ce15 : List (Nat × List Nat × List Nat) := [(1, [0, 1, 2, 3, 4, 8, 9, 13, 14, 5, 6, 7, 10, 11, 12, 15, 16, 17], [0, 1, 3, 0, 8, 24, 63, 127, 0, 256, 824, 2047, 4095, 0, 8192, 26424, 65535, 131071])]
def ro15 : List RO := [(.mv (.tmp 2))]
theorem ok15 : okFn Tryd.prog 15 28 ce15 = some (rc15, ro15) := by kernel_rfl
/-! lifeline/header.May -/

def rc16 : RC := (.seq (.run [⟨(some 1), none, (.e (.bx 25 (.tmp 0))), []⟩, ⟨(some 2), none, (.a (.const (.bool false))), []⟩])
  (.seq (.run [⟨(some 3), none, (.r (.fa 0 (.tmp 1))), []⟩, ⟨(some 4), none, (.r (.ld (.tmp 3))), []⟩, ⟨(some 5), none, (.c (.fn 10 [(.tmp 4)])), []⟩, ⟨(some 6), none, (.r (.mv (.tmp 5))), []⟩, ⟨(some 7), (some (6, true)), (.r (.fa 1 (.tmp 1))), []⟩, ⟨(some 8), (some (6, true)), (.r (.ld (.tmp 7))), []⟩, ⟨(some 9), (some (6, true)), (.r (.bin .geq (.tmp 8) (.const (.int .i64 0)))), []⟩, ⟨(some 10), none, (.r (.pick (.tmp 6) (.tmp 9) (.const (.bool false)))), []⟩, ⟨(some 11), none, (.r (.mv (.tmp 10))), []⟩, ⟨(some 12), (some (11, true)), (.r (.fa 1 (.tmp 1))), []⟩, ⟨(some 13), (some (11, true)), (.r (.ld (.tmp 12))), []⟩, ⟨(some 14), (some (11, true)), (.r (.bin .leq (.tmp 13) (.const (.int .i64 8192)))), []⟩, ⟨(some 15), none, (.r (.pick (.tmp 11) (.tmp 14) (.const (.bool false)))), []⟩, ⟨(some 16), none, (.r (.mv (.tmp 15))), []⟩, ⟨(some 17), (some (16, true)), (.r (.fa 2 (.tmp 1))), []⟩, ⟨(some 18), (some (16, true)), (.r (.ld (.tmp 17))), []⟩, ⟨(some 19), (some (16, true)), (.r (.bin .geq (.tmp 18) (.const (.int .i64 0)))), []⟩, ⟨(some 20), none, (.r (.pick (.tmp 16) (.tmp 19) (.const (.bool false)))), []⟩, ⟨(some 21), none, (.r (.mv (.tmp 20))), []⟩, ⟨(some 22), (some (21, true)), (.r (.fa 2 (.tmp 1))), []⟩, ⟨(some 23), (some (21, true)), (.r (.ld (.tmp 22))), []⟩, ⟨(some 24), (some (21, true)), (.r (.bin .lss (.tmp 23) (.const (.int .i64 4294967296)))), []⟩, ⟨(some 25), none, (.r (.pick (.tmp 21) (.tmp 24) (.const (.bool false)))), []⟩, ⟨(some 26), none, (.r (.mv (.tmp 25))), []⟩, ⟨(some 27), (some (26, true)), (.r (.fa 3 (.tmp 1))), []⟩, ⟨(some 28), (some (26, true)), (.r (.ld (.tmp 27))), []⟩, ⟨(some 29), (some (26, true)), (.r (.bin .geq (.tmp 28) (.const (.int .i64 0)))), []⟩, ⟨(some 30), none, (.r (.pick (.tmp 26) (.tmp 29) (.const (.bool false)))), []⟩, ⟨(some 31), none, (.r (.mv (.tmp 30))), []⟩, ⟨(some 32), (some (31, true)), (.r (.fa 3 (.tmp 1))), []⟩, ⟨(some 33), (some (31, true)), (.r (.ld (.tmp 32))), []⟩, ⟨(some 34), (some (31, true)), (.r (.bin .lss (.tmp 33) (.const (.int .i64 65536)))), []⟩, ⟨(some 35), none, (.r (.pick (.tmp 31) (.tmp 34) (.const (.bool false)))), []⟩, ⟨(some 2), none, (.a (.tmp 35)), []⟩])
  .ret))
def ce16 : List (Nat × List Nat × List Nat) := []
def ro16 : List RO := [(.mv (.tmp 2))]
theorem ok16 : okFn Tryd.prog 16 36 ce16 = some (rc16, ro16) := by kernel_rfl
/-! lifeline/lifelinelaw05.may -/

def rc17 : RC := (.seq (.run [⟨(some 1), none, (.e (.bx 25 (.tmp 0))), []⟩, ⟨(some 2), none, (.a (.const (.bool false))), []⟩])
  (.seq (.run [⟨(some 3), none, (.r (.fa 0 (.tmp 1))), []⟩, ⟨(some 4), none, (.r (.ld (.tmp 3))), []⟩, ⟨(some 5), none, (.c (.fn 11 [(.tmp 4)])), []⟩, ⟨(some 6), none, (.r (.mv (.tmp 5))), []⟩, ⟨(some 7), (some (6, true)), (.r (.fa 1 (.tmp 1))), []⟩, ⟨(some 8), (some (6, true)), (.r (.ld (.tmp 7))), []⟩, ⟨(some 9), (some (6, true)), (.r (.bin .geq (.tmp 8) (.const (.int .i64 0)))), []⟩, ⟨(some 10), none, (.r (.pick (.tmp 6) (.tmp 9) (.const (.bool false)))), []⟩, ⟨(some 11), none, (.r (.mv (.tmp 10))), []⟩, ⟨(some 12), (some (11, true)), (.r (.fa 1 (.tmp 1))), []⟩, ⟨(some 13), (some (11, true)), (.r (.ld (.tmp 12))), []⟩, ⟨(some 14), (some (11, true)), (.r (.bin .leq (.tmp 13) (.const (.int .i64 8192)))), []⟩, ⟨(some 15), none, (.r (.pick (.tmp 11) (.tmp 14) (.const (.bool false)))), []⟩, ⟨(some 16), none, (.r (.mv (.tmp 15))), []⟩, ⟨(some 17), (some (16, true)), (.r (.fa 2 (.tmp 1))), []⟩, ⟨(some 18), (some (16, true)), (.r (.ld (.tmp 17))), []⟩, ⟨(some 19), (some (16, true)), (.r (.bin .geq (.tmp 18) (.const (.int .i64 0)))), []⟩, ⟨(some 20), none, (.r (.pick (.tmp 16) (.tmp 19) (.const (.bool false)))), []⟩, ⟨(some 21), none, (.r (.mv (.tmp 20))), []⟩, ⟨(some 22), (some (21, true)), (.r (.fa 2 (.tmp 1))), []⟩, ⟨(some 23), (some (21, true)), (.r (.ld (.tmp 22))), []⟩, ⟨(some 24), (some (21, true)), (.r (.bin .lss (.tmp 23) (.const (.int .i64 4294967296)))), []⟩, ⟨(some 25), none, (.r (.pick (.tmp 21) (.tmp 24) (.const (.bool false)))), []⟩, ⟨(some 26), none, (.r (.mv (.tmp 25))), []⟩, ⟨(some 27), (some (26, true)), (.r (.fa 3 (.tmp 1))), []⟩, ⟨(some 28), (some (26, true)), (.r (.ld (.tmp 27))), []⟩, ⟨(some 29), (some (26, true)), (.r (.bin .geq (.tmp 28) (.const (.int .i64 0)))), []⟩, ⟨(some 30), none, (.r (.pick (.tmp 26) (.tmp 29) (.const (.bool false)))), []⟩, ⟨(some 31), none, (.r (.mv (.tmp 30))), []⟩, ⟨(some 32), (some (31, true)), (.r (.fa 3 (.tmp 1))), []⟩, ⟨(some 33), (some (31, true)), (.r (.ld (.tmp 32))), []⟩, ⟨(some 34), (some (31, true)), (.r (.bin .lss (.tmp 33) (.const (.int .i64 65536)))), []⟩, ⟨(some 35), none, (.r (.pick (.tmp 31) (.tmp 34) (.const (.bool false)))), []⟩, ⟨(some 2), none, (.a (.tmp 35)), []⟩])
  .ret))
def ce17 : List (Nat × List Nat × List Nat) := []
def ro17 : List RO := [(.mv (.tmp 2))]
theorem ok17 : okFn Tryd.prog 17 36 ce17 = some (rc17, ro17) := by kernel_rfl
/-! lifeline/header.Empty -/

def rc18 : RC := (.seq (.run [⟨(some 0), none, (.a (.const (.slice none 0 0))), []⟩])
  (.seq (.run [⟨(some 1), none, (.e (.mks 5 1 (.int .u8 0) (.const (.int .i64 128)) (.const (.int .i64 128)))), []⟩, ⟨(some 0), none, (.a (.tmp 1)), []⟩])
  .ret))
def ce18 : List (Nat × List Nat × List Nat) := []
def ro18 : List RO := [(.mv (.tmp 0))]
theorem ok18 : okFn Tryd.prog 18 2 ce18 = some (rc18, ro18) := by kernel_rfl
/-! lifeline/header.Ends -/

def rc19 : RC := (.seq (.run [⟨(some 2), none, (.a (.const (.bool false))), []⟩])
  (.seq (.run [⟨(some 3), none, (.r (.mv (.tmp 0))), []⟩, ⟨(some 4), none, (.r (.lenl (.tmp 3))), []⟩, ⟨(some 5), none, (.r (.bin .eql (.tmp 4) (.const (.int .i64 128)))), []⟩, ⟨(some 6), none, (.r (.mv (.tmp 5))), []⟩, ⟨(some 7), (some (6, true)), (.r (.mv (.tmp 0))), []⟩, ⟨(some 8), (some (6, true)), (.r (.ia 1 (.tmp 7) (.const (.int .i64 0)))), []⟩, ⟨(some 9), (some (6, true)), (.r (.ld (.tmp 8))), []⟩, ⟨(some 10), (some (6, true)), (.r (.bin .eql (.tmp 9) (.const (.int .u8 0)))), []⟩, ⟨(some 11), none, (.r (.pick (.tmp 6) (.tmp 10) (.const (.bool false)))), []⟩, ⟨(some 2), none, (.a (.tmp 11)), []⟩])
  .ret))
def ce19 : List (Nat × List Nat × List Nat) := []
def ro19 : List RO := [(.mv (.tmp 2))]
theorem ok19 : okFn Tryd.prog 19 12 ce19 = some (rc19, ro19) := by kernel_rfl
/-! strconv.Itoa -/

def rc20 : RC := (.seq (.run [⟨(some 2), none, (.a (.const (.string ⟨#[]⟩))), []⟩])
  (.seq (.run [⟨(some 3), none, (.r (.mv (.tmp 0))), []⟩, ⟨(some 4), none, (.c (.fn 28 [(.tmp 3)])), []⟩, ⟨(some 2), none, (.a (.tmp 4)), []⟩])
  .ret))
def ce20 : List (Nat × List Nat × List Nat) := []
def ro20 : List RO := [(.mv (.tmp 2))]
theorem ok20 : okFn Tryd.prog 20 5 ce20 = some (rc20, ro20) := by kernel_rfl
/-! strconv.FormatInt -/

def rc21 : RC := (.seq (.run [⟨(some 4), none, (.a (.const (.string ⟨#[]⟩))), []⟩])
  (.seq (.run [⟨(some 5), none, (.r (.mv (.tmp 0))), []⟩, ⟨(some 6), none, (.r (.mv (.tmp 1))), []⟩, ⟨(some 7), none, (.c (.fn 29 [(.tmp 5), (.tmp 6)])), []⟩, ⟨(some 4), none, (.a (.tmp 7)), []⟩])
  .ret))
def ce21 : List (Nat × List Nat × List Nat) := []
def ro21 : List RO := [(.mv (.tmp 4))]
theorem ok21 : okFn Tryd.prog 21 8 ce21 = some (rc21, ro21) := by kernel_rfl
/-! strings.Join -/
def rc22_0 : RC := (.seq (.block 2 (.seq (.run [⟨(some 43), none, (.r (.ia 1 (.tmp 39) (.tmp 41))), []⟩, ⟨(some 44), none, (.r (.ld (.tmp 43))), []⟩, ⟨(some 7), none, (.a (.tmp 44)), []⟩])
  (.seq (.seq (.run [⟨(some 45), none, (.r (.mv (.tmp 7))), []⟩, ⟨(some 46), none, (.r (.lens (.tmp 45))), []⟩, ⟨(some 47), none, (.r (.mv (.tmp 5))), []⟩, ⟨(some 48), none, (.r (.bin .sub (.const (.int .i64 9223372036854775807)) (.tmp 47))), []⟩, ⟨(some 49), none, (.r (.bin .gtr (.tmp 46) (.tmp 48))), []⟩])
  (.cond (.tmp 49)
  (.run [⟨(some 50), none, (.r (.mki 9 (.const (.string ⟨#[115, 116, 114, 105, 110, 103, 115, 58, 32, 74, 111, 105, 110, 32, 111, 117, 116, 112, 117, 116, 32, 108, 101, 110, 103, 116, 104, 32, 111, 118, 101, 114, 102, 108, 111, 119]⟩)))), []⟩, ⟨none, none, .bad, []⟩])
  .skip))
  (.run [⟨(some 51), none, (.r (.mv (.tmp 5))), []⟩, ⟨(some 52), none, (.r (.mv (.tmp 7))), []⟩, ⟨(some 53), none, (.r (.lens (.tmp 52))), []⟩, ⟨(some 54), none, (.r (.bin .add (.tmp 51) (.tmp 53))), []⟩, ⟨(some 5), none, (.a (.tmp 54)), []⟩]))))
  (.run [⟨(some 55), none, (.r (.bin .add (.tmp 41) (.const (.int .i64 1)))), []⟩, ⟨(some 41), none, (.r (.mv (.tmp 55))), []⟩]))
def rc22_1 : RC := (.seq (.run [⟨(some 42), none, (.r (.bin .lss (.tmp 41) (.tmp 40))), []⟩])
  (.seq (.cond (.tmp 42)
  .skip
  (.exit 1))
  rc22_0))
def rc22_2 : RC := (.seq (.block 4 (.seq (.run [⟨(some 67), none, (.r (.ia 1 (.tmp 63) (.tmp 65))), []⟩, ⟨(some 68), none, (.r (.ld (.tmp 67))), []⟩, ⟨(some 10), none, (.a (.tmp 68)), []⟩])
  (.seq (.run [⟨(some 69), none, (.r (.mv (.tmp 1))), []⟩, ⟨(some 70), none, (.c (.fn 31 [(.tmp 8), (.tmp 69)])), []⟩])
  (.run [⟨(some 71), none, (.r (.mv (.tmp 10))), []⟩, ⟨(some 72), none, (.c (.fn 31 [(.tmp 8), (.tmp 71)])), []⟩]))))
  (.run [⟨(some 73), none, (.r (.bin .add (.tmp 65) (.const (.int .i64 1)))), []⟩, ⟨(some 65), none, (.r (.mv (.tmp 73))), []⟩]))
def rc22_3 : RC := (.seq (.run [⟨(some 66), none, (.r (.bin .lss (.tmp 65) (.tmp 64))), []⟩])
  (.seq (.cond (.tmp 66)
  .skip
  (.exit 3))
  rc22_2))
def rc22_4 : RC := (.seq (.run [⟨(some 74), none, (.c (.fn 32 [(.tmp 8)])), []⟩, ⟨(some 4), none, (.a (.tmp 74)), []⟩])
  .ret)
def rc22_5 : RC := (.seq (.run [⟨(some 8), none, (.e (.al [(.pointer none), (.slice none 0 0)] 57)), []⟩])
  (.seq (.run [⟨(some 56), none, (.r (.mv (.tmp 5))), []⟩, ⟨(some 57), none, (.c (.fn 30 [(.tmp 8), (.tmp 56)])), []⟩])
  (.seq (.run [⟨(some 58), none, (.r (.mv (.tmp 0))), []⟩, ⟨(some 59), none, (.r (.ia 1 (.tmp 58) (.const (.int .i64 0)))), []⟩, ⟨(some 60), none, (.r (.ld (.tmp 59))), []⟩, ⟨(some 61), none, (.c (.fn 31 [(.tmp 8), (.tmp 60)])), []⟩])
  (.seq (.seq (.run [⟨(some 62), none, (.r (.mv (.tmp 0))), []⟩, ⟨(some 63), none, (.r (.sl 1 (.tmp 62) (some (.const (.int .i64 1))) none)), []⟩, ⟨(some 64), none, (.r (.lenl (.tmp 63))), []⟩, ⟨(some 65), none, (.r (.mv (.const (.int .i64 0)))), []⟩])
  (.block 3 (.loop rc22_3)))
  rc22_4))))
def rc22_6 : RC := (.seq (.seq (.run [⟨(some 39), none, (.r (.mv (.tmp 0))), []⟩, ⟨(some 40), none, (.r (.lenl (.tmp 39))), []⟩, ⟨(some 41), none, (.r (.mv (.const (.int .i64 0)))), []⟩])
  (.block 1 (.loop rc22_1)))
  rc22_5)
def rc22_7 : RC := (.seq (.run [⟨(some 5), none, (.a (.const (.int .i64 0))), []⟩])
  (.seq (.seq (.run [⟨(some 20), none, (.r (.mv (.tmp 1))), []⟩, ⟨(some 21), none, (.r (.lens (.tmp 20))), []⟩, ⟨(some 22), none, (.r (.bin .gtr (.tmp 21) (.const (.int .i64 0)))), []⟩])
  (.cond (.tmp 22)
  (.seq (.seq (.run [⟨(some 23), none, (.r (.mv (.tmp 1))), []⟩, ⟨(some 24), none, (.r (.lens (.tmp 23))), []⟩, ⟨(some 25), none, (.r (.mv (.tmp 0))), []⟩, ⟨(some 26), none, (.r (.lenl (.tmp 25))), []⟩, ⟨(some 27), none, (.r (.bin .sub (.tmp 26) (.const (.int .i64 1)))), []⟩, ⟨(some 28), none, (.r (.bin .quo (.const (.int .i64 9223372036854775807)) (.tmp 27))), []⟩, ⟨(some 29), none, (.r (.bin .geq (.tmp 24) (.tmp 28))), []⟩])
  (.cond (.tmp 29)
  (.run [⟨(some 30), none, (.r (.mki 9 (.const (.string ⟨#[115, 116, 114, 105, 110, 103, 115, 58, 32, 74, 111, 105, 110, 32, 111, 117, 116, 112, 117, 116, 32, 108, 101, 110, 103, 116, 104, 32, 111, 118, 101, 114, 102, 108, 111, 119]⟩)))), []⟩, ⟨none, none, .bad, []⟩])
  .skip))
  (.run [⟨(some 31), none, (.r (.mv (.tmp 5))), []⟩, ⟨(some 32), none, (.r (.mv (.tmp 1))), []⟩, ⟨(some 33), none, (.r (.lens (.tmp 32))), []⟩, ⟨(some 34), none, (.r (.mv (.tmp 0))), []⟩, ⟨(some 35), none, (.r (.lenl (.tmp 34))), []⟩, ⟨(some 36), none, (.r (.bin .sub (.tmp 35) (.const (.int .i64 1)))), []⟩, ⟨(some 37), none, (.r (.bin .mul (.tmp 33) (.tmp 36))), []⟩, ⟨(some 38), none, (.r (.bin .add (.tmp 31) (.tmp 37))), []⟩, ⟨(some 5), none, (.a (.tmp 38)), []⟩]))
  .skip))
  rc22_6))
def rc22 : RC := (.seq (.run [⟨(some 4), none, (.a (.const (.string ⟨#[]⟩))), []⟩])
  (.seq (.seq (.run [⟨(some 11), none, (.r (.mv (.tmp 0))), []⟩, ⟨(some 12), none, (.r (.lenl (.tmp 11))), []⟩])
  (.block 0 (.seq (.run [⟨(some 14), none, (.r (.bin .eql (.tmp 12) (.const (.int .i64 0)))), []⟩, ⟨(some 13), none, (.a (.tmp 14)), []⟩])
  (.cond (.tmp 13)
  (.seq (.run [⟨(some 4), none, (.a (.const (.string ⟨#[]⟩))), []⟩])
  .ret)
  (.seq (.run [⟨(some 16), none, (.r (.bin .eql (.tmp 12) (.const (.int .i64 1)))), []⟩, ⟨(some 15), none, (.a (.tmp 16)), []⟩])
  (.cond (.tmp 15)
  (.seq (.run [⟨(some 17), none, (.r (.mv (.tmp 0))), []⟩, ⟨(some 18), none, (.r (.ia 1 (.tmp 17) (.const (.int .i64 0)))), []⟩, ⟨(some 19), none, (.r (.ld (.tmp 18))), []⟩, ⟨(some 4), none, (.a (.tmp 19)), []⟩])
  .ret)
  .skip))))))
  rc22_7))
def ce22 : List (Nat × List Nat × List Nat) := []
def ro22 : List RO := [(.mv (.tmp 4))]
theorem ok22 : okFn Tryd.prog 22 75 ce22 = some (rc22, ro22) := by kernel_rfl
/-! strings.Cut -/

def rc23 : RC := (.seq (.run [⟨(some 4), none, (.a (.const (.string ⟨#[]⟩))), []⟩, ⟨(some 5), none, (.a (.const (.string ⟨#[]⟩))), []⟩, ⟨(some 6), none, (.a (.const (.bool false))), []⟩])
  (.seq (.run [⟨(some 7), none, (.r (.mv (.tmp 0))), []⟩, ⟨(some 8), none, (.r (.mv (.tmp 1))), []⟩, ⟨(some 9), none, (.c (.fn 33 [(.tmp 7), (.tmp 8)])), []⟩, ⟨(some 10), none, (.r (.ext 0 (.tmp 9))), []⟩, ⟨(some 11), none, (.r (.ext 1 (.tmp 9))), []⟩, ⟨(some 12), none, (.r (.ext 2 (.tmp 9))), []⟩, ⟨(some 4), none, (.a (.tmp 10)), []⟩, ⟨(some 5), none, (.a (.tmp 11)), []⟩, ⟨(some 6), none, (.a (.tmp 12)), []⟩])
  .ret))
def ce23 : List (Nat × List Nat × List Nat) := []
def ro23 : List RO := [(.mv (.tmp 4)), (.mv (.tmp 5)), (.mv (.tmp 6))]
theorem ok23 : okFn Tryd.prog 23 13 ce23 = some (rc23, ro23) := by kernel_rfl
/-! strings.Split -/

def rc24 : RC := (.seq (.run [⟨(some 4), none, (.a (.const (.slice none 0 0))), []⟩])
  (.seq (.run [⟨(some 5), none, (.r (.mv (.tmp 0))), []⟩, ⟨(some 6), none, (.r (.mv (.tmp 1))), []⟩, ⟨(some 7), none, (.c (.fn 34 [(.tmp 5), (.tmp 6), (.const (.int .i64 0)), (.const (.int .i64 (-1)))])), []⟩, ⟨(some 4), none, (.a (.tmp 7)), []⟩])
  .ret))
def ce24 : List (Nat × List Nat × List Nat) := []
def ro24 : List RO := [(.mv (.tmp 4))]
theorem ok24 : okFn Tryd.prog 24 8 ce24 = some (rc24, ro24) := by kernel_rfl
/-! strings.TrimRight -/
def rc25_0 : RC := (.seq (.run [⟨(some 34), none, (.r (.mv (.tmp 0))), []⟩, ⟨(some 35), none, (.r (.mv (.tmp 1))), []⟩, ⟨(some 36), none, (.c (.fn 38 [(.tmp 34), (.tmp 35)])), []⟩, ⟨(some 4), none, (.a (.tmp 36)), []⟩])
  .ret)
def rc25_1 : RC := (.seq (.seq (.run [⟨(some 27), none, (.r (.mv (.tmp 1))), []⟩, ⟨(some 28), none, (.c (.fn 36 [(.tmp 27)])), []⟩, ⟨(some 26), none, (.r (.mv (.tmp 28))), []⟩, ⟨(some 29), none, (.r (.ext 0 (.tmp 26))), []⟩, ⟨(some 30), none, (.r (.ext 1 (.tmp 26))), []⟩, ⟨(some 5), none, (.e (.al [(.bool false), (.bool false), (.bool false), (.bool false), (.bool false), (.bool false), (.bool false), (.bool false), (.bool false), (.bool false), (.bool false), (.bool false), (.bool false), (.bool false), (.bool false), (.bool false), (.bool false), (.bool false), (.bool false), (.bool false), (.bool false), (.bool false), (.bool false), (.bool false), (.bool false), (.bool false), (.bool false), (.bool false), (.bool false), (.bool false), (.bool false), (.bool false), (.bool false), (.bool false), (.bool false), (.bool false), (.bool false), (.bool false), (.bool false), (.bool false), (.bool false), (.bool false), (.bool false), (.bool false), (.bool false), (.bool false), (.bool false), (.bool false), (.bool false), (.bool false), (.bool false), (.bool false), (.bool false), (.bool false), (.bool false), (.bool false), (.bool false), (.bool false), (.bool false), (.bool false), (.bool false), (.bool false), (.bool false), (.bool false), (.bool false), (.bool false), (.bool false), (.bool false), (.bool false), (.bool false), (.bool false), (.bool false), (.bool false), (.bool false), (.bool false), (.bool false), (.bool false), (.bool false), (.bool false), (.bool false), (.bool false), (.bool false), (.bool false), (.bool false), (.bool false), (.bool false), (.bool false), (.bool false), (.bool false), (.bool false), (.bool false), (.bool false), (.bool false), (.bool false), (.bool false), (.bool false), (.bool false), (.bool false), (.bool false), (.bool false), (.bool false), (.bool false), (.bool false), (.bool false), (.bool false), (.bool false), (.bool false), (.bool false), (.bool false), (.bool false), (.bool false), (.bool false), (.bool false), (.bool false), (.bool false), (.bool false), (.bool false), (.bool false), (.bool false), (.bool false), (.bool false), (.bool false), (.bool false), (.bool false), (.bool false), (.bool false), (.bool false), (.bool false), (.bool false), (.bool false), (.bool false), (.bool false), (.bool false), (.bool false), (.bool false), (.bool false), (.bool false), (.bool false), (.bool false), (.bool false), (.bool false), (.bool false), (.bool false), (.bool false), (.bool false), (.bool false), (.bool false), (.bool false), (.bool false), (.bool false), (.bool false), (.bool false), (.bool false), (.bool false), (.bool false), (.bool false), (.bool false), (.bool false), (.bool false), (.bool false), (.bool false), (.bool false), (.bool false), (.bool false), (.bool false), (.bool false), (.bool false), (.bool false), (.bool false), (.bool false), (.bool false), (.bool false), (.bool false), (.bool false), (.bool false), (.bool false), (.bool false), (.bool false), (.bool false), (.bool false), (.bool false), (.bool false), (.bool false), (.bool false), (.bool false), (.bool false), (.bool false), (.bool false), (.bool false), (.bool false), (.bool false), (.bool false), (.bool false), (.bool false), (.bool false), (.bool false), (.bool false), (.bool false), (.bool false), (.bool false), (.bool false), (.bool false), (.bool false), (.bool false), (.bool false), (.bool false), (.bool false), (.bool false), (.bool false), (.bool false), (.bool false), (.bool false), (.bool false), (.bool false), (.bool false), (.bool false), (.bool false), (.bool false), (.bool false), (.bool false), (.bool false), (.bool false), (.bool false), (.bool false), (.bool false), (.bool false), (.bool false), (.bool false), (.bool false), (.bool false), (.bool false), (.bool false), (.bool false), (.bool false), (.bool false), (.bool false), (.bool false), (.bool false), (.bool false), (.bool false), (.bool false), (.bool false), (.bool false), (.bool false), (.bool false), (.bool false), (.bool false), (.bool false), (.bool false), (.bool false), (.bool false), (.bool false), (.bool false), (.bool false), (.bool false), (.bool false)] 67)), []⟩, ⟨none, none, (.e (.st 256 (.tmp 5) (.tmp 29))), []⟩, ⟨(some 6), none, (.a (.tmp 30)), []⟩])
  (.seq (.run [⟨(some 31), none, (.r (.mv (.tmp 6))), []⟩])
  (.cond (.tmp 31)
  (.seq (.run [⟨(some 32), none, (.r (.mv (.tmp 0))), []⟩, ⟨(some 33), none, (.c (.fn 37 [(.tmp 32), (.tmp 5)])), []⟩, ⟨(some 4), none, (.a (.tmp 33)), []⟩])
  .ret)
  .skip)))
  rc25_0)
def rc25_2 : RC := (.seq (.seq (.run [⟨(some 14), none, (.r (.mv (.tmp 1))), []⟩, ⟨(some 15), none, (.r (.lens (.tmp 14))), []⟩, ⟨(some 16), none, (.r (.bin .eql (.tmp 15) (.const (.int .i64 1)))), []⟩, ⟨(some 17), none, (.r (.mv (.tmp 16))), []⟩, ⟨(some 18), (some (17, true)), (.r (.mv (.tmp 1))), []⟩, ⟨(some 19), (some (17, true)), (.r (.ixs (.tmp 18) (.const (.int .i64 0)))), []⟩, ⟨(some 20), (some (17, true)), (.r (.bin .lss (.tmp 19) (.const (.int .u8 128)))), []⟩, ⟨(some 21), none, (.r (.pick (.tmp 17) (.tmp 20) (.const (.bool false)))), []⟩])
  (.cond (.tmp 21)
  (.seq (.run [⟨(some 22), none, (.r (.mv (.tmp 0))), []⟩, ⟨(some 23), none, (.r (.mv (.tmp 1))), []⟩, ⟨(some 24), none, (.r (.ixs (.tmp 23) (.const (.int .i64 0)))), []⟩, ⟨(some 25), none, (.c (.fn 35 [(.tmp 22), (.tmp 24)])), []⟩, ⟨(some 4), none, (.a (.tmp 25)), []⟩])
  .ret)
  .skip))
  rc25_1)
def rc25 : RC := (.seq (.run [⟨(some 4), none, (.a (.const (.string ⟨#[]⟩))), []⟩])
  (.seq (.seq (.run [⟨(some 7), none, (.r (.mv (.tmp 0))), []⟩, ⟨(some 8), none, (.r (.bin .eql (.tmp 7) (.const (.string ⟨#[]⟩)))), []⟩, ⟨(some 9), none, (.r (.mv (.tmp 8))), []⟩, ⟨(some 10), (some (9, false)), (.r (.mv (.tmp 1))), []⟩, ⟨(some 11), (some (9, false)), (.r (.bin .eql (.tmp 10) (.const (.string ⟨#[]⟩)))), []⟩, ⟨(some 12), none, (.r (.pick (.tmp 9) (.const (.bool true)) (.tmp 11))), []⟩])
  (.cond (.tmp 12)
  (.seq (.run [⟨(some 13), none, (.r (.mv (.tmp 0))), []⟩, ⟨(some 4), none, (.a (.tmp 13)), []⟩])
  .ret)
  .skip))
  rc25_2))
def ce25 : List (Nat × List Nat × List Nat) := []
def ro25 : List RO := [(.mv (.tmp 4))]
theorem ok25 : okFn Tryd.prog 25 37 ce25 = some (rc25, ro25) := by kernel_rfl
/-! lifeline/header.number -/

def rc26 : RC := (.seq (.run [⟨(some 6), none, (.a (.const (.int .i64 0))), []⟩, ⟨(some 7), none, (.a (.const (.bool false))), []⟩])
  (.seq (.run [⟨(some 11), none, (.r (.mv (.tmp 0))), []⟩, ⟨(some 12), none, (.r (.mv (.tmp 1))), []⟩, ⟨(some 13), none, (.c (.fn 39 [(.tmp 11), (.tmp 12), (.const (.int .i64 64))])), []⟩, ⟨(some 10), none, (.r (.mv (.tmp 13))), []⟩, ⟨(some 14), none, (.r (.ext 0 (.tmp 10))), []⟩, ⟨(some 15), none, (.r (.ext 1 (.tmp 10))), []⟩, ⟨(some 8), none, (.a (.tmp 14)), []⟩, ⟨(some 9), none, (.a (.tmp 15)), []⟩])
  (.seq (.run [⟨(some 16), none, (.r (.mv (.tmp 8))), []⟩, ⟨(some 17), none, (.r (.mv (.tmp 9))), []⟩, ⟨(some 18), none, (.r (.eq false (.iface []) (.tmp 17) (.const .nilIface))), []⟩, ⟨(some 19), none, (.r (.mv (.tmp 18))), []⟩, ⟨(some 20), (some (19, true)), (.r (.mv (.tmp 8))), []⟩, ⟨(some 21), (some (19, true)), (.r (.bin .geq (.tmp 20) (.const (.int .i64 0)))), []⟩, ⟨(some 22), none, (.r (.pick (.tmp 19) (.tmp 21) (.const (.bool false)))), []⟩, ⟨(some 23), none, (.r (.mv (.tmp 22))), []⟩, ⟨(some 24), (some (23, true)), (.r (.mv (.tmp 8))), []⟩, ⟨(some 25), (some (23, true)), (.r (.mv (.tmp 2))), []⟩, ⟨(some 26), (some (23, true)), (.r (.bin .leq (.tmp 24) (.tmp 25))), []⟩, ⟨(some 27), none, (.r (.pick (.tmp 23) (.tmp 26) (.const (.bool false)))), []⟩, ⟨(some 28), none, (.r (.mv (.tmp 27))), []⟩, ⟨(some 29), (some (28, true)), (.r (.mv (.tmp 8))), []⟩, ⟨(some 30), (some (28, true)), (.r (.mv (.tmp 1))), []⟩, ⟨(some 31), (some (28, true)), (.c (.fn 21 [(.tmp 29), (.tmp 30)])), []⟩, ⟨(some 32), (some (28, true)), (.r (.mv (.tmp 0))), []⟩, ⟨(some 33), (some (28, true)), (.r (.bin .eql (.tmp 31) (.tmp 32))), []⟩, ⟨(some 34), none, (.r (.pick (.tmp 28) (.tmp 33) (.const (.bool false)))), []⟩, ⟨(some 6), none, (.a (.tmp 16)), []⟩, ⟨(some 7), none, (.a (.tmp 34)), []⟩])
  .ret)))
def ce26 : List (Nat × List Nat × List Nat) := []
def ro26 : List RO := [(.mv (.tmp 6)), (.mv (.tmp 7))]
theorem ok26 : okFn Tryd.prog 26 35 ce26 = some (rc26, ro26) := by kernel_rfl
/-! lifeline/lifelinelaw05.digits -/
def rc27_0 : RC := (.seq (.run [⟨(some 12), none, (.r (.mv (.tmp 0))), []⟩, ⟨(some 13), none, (.r (.mv (.tmp 1))), []⟩, ⟨(some 14), none, (.r (.bin .quo (.tmp 12) (.tmp 13))), []⟩, ⟨(some 15), none, (.r (.mv (.tmp 1))), []⟩, ⟨(some 17), none, (.r (.mv (.tmp 0))), []⟩, ⟨(some 18), none, (.r (.mv (.tmp 1))), []⟩, ⟨(some 19), none, (.r (.bin .rem (.tmp 17) (.tmp 18))), []⟩, ⟨(some 20), none, (.r (.mv (.tmp 1))), []⟩, ⟨(some 16), none, (.c (.fn 27 [(.tmp 14), (.tmp 15)])), []⟩, ⟨(some 21), none, (.c (.fn 27 [(.tmp 19), (.tmp 20)])), []⟩, ⟨(some 22), none, (.r (.bin .add (.tmp 16) (.tmp 21))), []⟩, ⟨(some 4), none, (.a (.tmp 22)), []⟩])
  .ret)
def rc27 : RC := (.seq (.run [⟨(some 4), none, (.a (.const (.string ⟨#[]⟩))), []⟩])
  (.seq (.seq (.run [⟨(some 5), none, (.r (.mv (.tmp 0))), []⟩, ⟨(some 6), none, (.r (.mv (.tmp 1))), []⟩, ⟨(some 7), none, (.r (.bin .lss (.tmp 5) (.tmp 6))), []⟩])
  (.cond (.tmp 7)
  (.seq (.run [⟨(some 8), none, (.r (.mv (.tmp 0))), []⟩, ⟨(some 9), none, (.r (.mv (.tmp 0))), []⟩, ⟨(some 10), none, (.r (.bin .add (.tmp 9) (.const (.int .i64 1)))), []⟩, ⟨(some 11), none, (.r (.sls (.const (.string ⟨#[48, 49, 50, 51, 52, 53, 54, 55, 56, 57]⟩)) (some (.tmp 8)) (some (.tmp 10)))), []⟩, ⟨(some 4), none, (.a (.tmp 11)), []⟩])
  .ret)
  .skip))
  rc27_0))
def ce27 : List (Nat × List Nat × List Nat) := [(3, [0, 1, 2, 3, 5, 6, 7, 8, 4, 9, 10, 11], [0, 0, 3, 0, 15, 0, 0, 96, 0, 511, 1023, 2047])]
def ro27 : List RO := [(.mv (.tmp 4))]
theorem ok27 : okFn Tryd.prog 27 23 ce27 = some (rc27, ro27) := by kernel_rfl
/-! internal/strconv.Itoa -/

def rc28 : RC := (.seq (.run [⟨(some 2), none, (.a (.const (.string ⟨#[]⟩))), []⟩])
  (.seq (.run [⟨(some 3), none, (.r (.mv (.tmp 0))), []⟩, ⟨(some 4), none, (.c (.fn 29 [(.tmp 3), (.const (.int .i64 10))])), []⟩, ⟨(some 2), none, (.a (.tmp 4)), []⟩])
  .ret))
def ce28 : List (Nat × List Nat × List Nat) := []
def ro28 : List RO := [(.mv (.tmp 2))]
theorem ok28 : okFn Tryd.prog 28 5 ce28 = some (rc28, ro28) := by kernel_rfl
/-! internal/strconv.FormatInt -/
def rc29_0 : RC := (.seq (.run [⟨(some 40), none, (.r (.mv (.tmp 7))), []⟩, ⟨(some 41), none, (.r (.bin .add (.const (.int .i64 1)) (.tmp 40))), []⟩, ⟨(some 42), none, (.r (.sla 24 1 (.tmp 5) (some (.const (.int .i64 1))) (some (.tmp 41)))), []⟩, ⟨(some 43), none, (.r (.b2s (.tmp 42))), []⟩, ⟨(some 4), none, (.a (.tmp 43)), []⟩])
  .ret)
def rc29_1 : RC := (.seq (.run [⟨(some 26), none, (.r (.mv (.tmp 6))), []⟩, ⟨(some 27), none, (.c (.fn 41 [(.tmp 26)])), []⟩, ⟨(some 7), none, (.a (.tmp 27)), []⟩])
  (.seq (.run [⟨(some 28), none, (.r (.mv (.tmp 7))), []⟩, ⟨(some 29), none, (.r (.bin .add (.const (.int .i64 1)) (.tmp 28))), []⟩, ⟨(some 30), none, (.r (.sla 24 1 (.tmp 5) (some (.const (.int .i64 1))) (some (.tmp 29)))), []⟩, ⟨(some 31), none, (.r (.mv (.tmp 6))), []⟩, ⟨(some 32), none, (.c (.fn 42 [(.tmp 30), (.tmp 31)])), []⟩])
  (.seq (.seq (.run [⟨(some 33), none, (.r (.mv (.tmp 0))), []⟩, ⟨(some 34), none, (.r (.bin .lss (.tmp 33) (.const (.int .i64 0)))), []⟩])
  (.cond (.tmp 34)
  (.seq (.run [⟨(some 35), none, (.r (.iaa 24 1 (.tmp 5) (.const (.int .i64 0)))), []⟩, ⟨none, none, (.e (.st 1 (.tmp 35) (.const (.int .u8 45)))), []⟩])
  (.seq (.run [⟨(some 36), none, (.r (.mv (.tmp 7))), []⟩, ⟨(some 37), none, (.r (.bin .add (.const (.int .i64 1)) (.tmp 36))), []⟩, ⟨(some 38), none, (.r (.sla 24 1 (.tmp 5) none (some (.tmp 37)))), []⟩, ⟨(some 39), none, (.r (.b2s (.tmp 38))), []⟩, ⟨(some 4), none, (.a (.tmp 39)), []⟩])
  .ret))
  .skip))
  rc29_0)))
def rc29_2 : RC := (.seq (.run [⟨(some 5), none, (.e (.al [(.int .u8 0), (.int .u8 0), (.int .u8 0), (.int .u8 0), (.int .u8 0), (.int .u8 0), (.int .u8 0), (.int .u8 0), (.int .u8 0), (.int .u8 0), (.int .u8 0), (.int .u8 0), (.int .u8 0), (.int .u8 0), (.int .u8 0), (.int .u8 0), (.int .u8 0), (.int .u8 0), (.int .u8 0), (.int .u8 0), (.int .u8 0), (.int .u8 0), (.int .u8 0), (.int .u8 0)] 74)), []⟩])
  (.seq (.run [⟨(some 20), none, (.r (.mv (.tmp 0))), []⟩, ⟨(some 21), none, (.r (.cvi .u64 (.tmp 20))), []⟩, ⟨(some 6), none, (.a (.tmp 21)), []⟩])
  (.seq (.seq (.run [⟨(some 22), none, (.r (.mv (.tmp 0))), []⟩, ⟨(some 23), none, (.r (.bin .lss (.tmp 22) (.const (.int .i64 0)))), []⟩])
  (.cond (.tmp 23)
  (.run [⟨(some 24), none, (.r (.mv (.tmp 6))), []⟩, ⟨(some 25), none, (.r (.neg (.tmp 24))), []⟩, ⟨(some 6), none, (.a (.tmp 25)), []⟩])
  .skip))
  rc29_1)))
def rc29_3 : RC := (.seq (.run [⟨(some 45), none, (.r (.mv (.tmp 0))), []⟩, ⟨(some 46), none, (.r (.cvi .u64 (.tmp 45))), []⟩, ⟨(some 47), none, (.r (.mv (.tmp 1))), []⟩, ⟨(some 48), none, (.r (.mv (.tmp 0))), []⟩, ⟨(some 49), none, (.r (.bin .lss (.tmp 48) (.const (.int .i64 0)))), []⟩, ⟨(some 50), none, (.c (.fn 43 [(.const (.slice none 0 0)), (.tmp 46), (.tmp 47), (.tmp 49), (.const (.bool false))])), []⟩, ⟨(some 44), none, (.r (.mv (.tmp 50))), []⟩, ⟨(some 51), none, (.r (.ext 0 (.tmp 44))), []⟩, ⟨(some 52), none, (.r (.ext 1 (.tmp 44))), []⟩, ⟨(some 8), none, (.a (.tmp 51)), []⟩, ⟨(some 9), none, (.a (.tmp 52)), []⟩])
  (.seq (.run [⟨(some 53), none, (.r (.mv (.tmp 9))), []⟩, ⟨(some 4), none, (.a (.tmp 53)), []⟩])
  .ret))
def rc29 : RC := (.seq (.run [⟨(some 4), none, (.a (.const (.string ⟨#[]⟩))), []⟩])
  (.seq (.seq (.run [⟨(some 10), none, (.r (.mv (.tmp 1))), []⟩, ⟨(some 11), none, (.r (.bin .eql (.tmp 10) (.const (.int .i64 10)))), []⟩])
  (.cond (.tmp 11)
  (.seq (.seq (.run [⟨(some 12), none, (.r (.mv (.tmp 0))), []⟩, ⟨(some 13), none, (.r (.bin .leq (.const (.int .i64 0)) (.tmp 12))), []⟩, ⟨(some 14), none, (.r (.mv (.tmp 13))), []⟩, ⟨(some 15), (some (14, true)), (.r (.mv (.tmp 0))), []⟩, ⟨(some 16), (some (14, true)), (.r (.bin .lss (.tmp 15) (.const (.int .i64 100)))), []⟩, ⟨(some 17), none, (.r (.pick (.tmp 14) (.tmp 16) (.const (.bool false)))), []⟩])
  (.cond (.tmp 17)
  (.seq (.run [⟨(some 18), none, (.r (.mv (.tmp 0))), []⟩, ⟨(some 19), none, (.c (.fn 40 [(.tmp 18)])), []⟩, ⟨(some 4), none, (.a (.tmp 19)), []⟩])
  .ret)
  .skip))
  rc29_2)
  .skip))
  rc29_3))
def ce29 : List (Nat × List Nat × List Nat) := []
def ro29 : List RO := [(.mv (.tmp 4))]
theorem ok29 : okFn Tryd.prog 29 54 ce29 = some (rc29, ro29) := by kernel_rfl
/-! (*strings.Builder).Grow -/
def rc30_0 : RC := (.seq (.run [⟨(some 9), none, (.r (.mv (.tmp 0))), []⟩, ⟨(some 10), none, (.r (.nck (.tmp 9))), []⟩, ⟨(some 11), none, (.r (.fa 1 (.tmp 10))), []⟩, ⟨(some 12), none, (.r (.ld (.tmp 11))), []⟩, ⟨(some 13), none, (.r (.capn (.tmp 12))), []⟩, ⟨(some 14), none, (.r (.mv (.tmp 0))), []⟩, ⟨(some 15), none, (.r (.nck (.tmp 14))), []⟩, ⟨(some 16), none, (.r (.fa 1 (.tmp 15))), []⟩, ⟨(some 17), none, (.r (.ld (.tmp 16))), []⟩, ⟨(some 18), none, (.r (.lenl (.tmp 17))), []⟩, ⟨(some 19), none, (.r (.bin .sub (.tmp 13) (.tmp 18))), []⟩, ⟨(some 20), none, (.r (.mv (.tmp 1))), []⟩, ⟨(some 21), none, (.r (.bin .lss (.tmp 19) (.tmp 20))), []⟩])
  (.cond (.tmp 21)
  (.run [⟨(some 22), none, (.r (.mv (.tmp 0))), []⟩, ⟨(some 23), none, (.r (.mv (.tmp 1))), []⟩, ⟨(some 24), none, (.c (.fn 45 [(.tmp 22), (.tmp 23)])), []⟩])
  .skip))
def rc30 : RC := (.seq (.run [⟨(some 4), none, (.r (.mv (.tmp 0))), []⟩, ⟨(some 5), none, (.c (.fn 44 [(.tmp 4)])), []⟩])
  (.seq (.seq (.run [⟨(some 6), none, (.r (.mv (.tmp 1))), []⟩, ⟨(some 7), none, (.r (.bin .lss (.tmp 6) (.const (.int .i64 0)))), []⟩])
  (.cond (.tmp 7)
  (.run [⟨(some 8), none, (.r (.mki 9 (.const (.string ⟨#[115, 116, 114, 105, 110, 103, 115, 46, 66, 117, 105, 108, 100, 101, 114, 46, 71, 114, 111, 119, 58, 32, 110, 101, 103, 97, 116, 105, 118, 101, 32, 99, 111, 117, 110, 116]⟩)))), []⟩, ⟨none, none, .bad, []⟩])
  .skip))
  rc30_0))
def ce30 : List (Nat × List Nat × List Nat) := [(3, [0, 1, 2, 3, 4, 5, 6, 7, 8, 9, 10, 11, 12], [0, 1, 3, 7, 15, 0, 32, 96, 224, 480, 1023, 0, 4095])]
def ro30 : List RO := []
theorem ok30 : okFn Tryd.prog 30 25 ce30 = some (rc30, ro30) := by kernel_rfl
/-! (*strings.Builder).WriteString -/

def rc31 : RC := (.seq (.run [⟨(some 4), none, (.a (.const (.int .i64 0))), []⟩, ⟨(some 5), none, (.a (.const .nilIface)), []⟩])
  (.seq (.run [⟨(some 6), none, (.r (.mv (.tmp 0))), []⟩, ⟨(some 7), none, (.c (.fn 44 [(.tmp 6)])), []⟩])
  (.seq (.run [⟨(some 8), none, (.r (.mv (.tmp 0))), []⟩, ⟨(some 9), none, (.r (.mv (.tmp 0))), []⟩, ⟨(some 10), none, (.r (.nck (.tmp 9))), []⟩, ⟨(some 11), none, (.r (.fa 1 (.tmp 10))), []⟩, ⟨(some 12), none, (.r (.ld (.tmp 11))), []⟩, ⟨(some 13), none, (.r (.mv (.tmp 1))), []⟩, ⟨(some 14), none, (.e (.app 5 1 1 (.tmp 12) (.tmp 13))), []⟩, ⟨(some 15), none, (.r (.nck (.tmp 8))), []⟩, ⟨(some 16), none, (.r (.fa 1 (.tmp 15))), []⟩, ⟨none, none, (.e (.st 1 (.tmp 16) (.tmp 14))), []⟩])
  (.seq (.run [⟨(some 17), none, (.r (.mv (.tmp 1))), []⟩, ⟨(some 18), none, (.r (.lens (.tmp 17))), []⟩, ⟨(some 4), none, (.a (.tmp 18)), []⟩, ⟨(some 5), none, (.a (.const .nilIface)), []⟩])
  .ret))))
def ce31 : List (Nat × List Nat × List Nat) := []
def ro31 : List RO := [(.mv (.tmp 4)), (.mv (.tmp 5))]
theorem ok31 : okFn Tryd.prog 31 19 ce31 = some (rc31, ro31) := by kernel_rfl
/-! (*strings.Builder).String -/

def rc32 : RC := (.seq (.run [⟨(some 2), none, (.a (.const (.string ⟨#[]⟩))), []⟩])
  (.seq (.run [⟨(some 3), none, (.r (.mv (.tmp 0))), []⟩, ⟨(some 4), none, (.r (.nck (.tmp 3))), []⟩, ⟨(some 5), none, (.r (.fa 1 (.tmp 4))), []⟩, ⟨(some 6), none, (.r (.ld (.tmp 5))), []⟩, ⟨(some 7), none, (.r (.usd (.tmp 6))), []⟩, ⟨(some 8), none, (.r (.mv (.tmp 0))), []⟩, ⟨(some 9), none, (.r (.nck (.tmp 8))), []⟩, ⟨(some 10), none, (.r (.fa 1 (.tmp 9))), []⟩, ⟨(some 11), none, (.r (.ld (.tmp 10))), []⟩, ⟨(some 12), none, (.r (.lenl (.tmp 11))), []⟩, ⟨(some 13), none, (.e (.ust 5 (.tmp 7) (.tmp 12))), []⟩, ⟨(some 2), none, (.a (.tmp 13)), []⟩])
  .ret))
def ce32 : List (Nat × List Nat × List Nat) := [(1, [0, 1, 2, 3, 4, 5, 6, 7, 8, 9, 10, 11], [0, 1, 3, 7, 15, 0, 32, 96, 224, 480, 1023, 2047])]
def ro32 : List RO := [(.mv (.tmp 2))]
theorem ok32 : okFn Tryd.prog 32 14 ce32 = some (rc32, ro32) := by kernel_rfl
/-! internal/stringslite.Cut -/
def rc33_0 : RC := (.seq (.run [⟨(some 22), none, (.r (.mv (.tmp 0))), []⟩, ⟨(some 4), none, (.a (.tmp 22)), []⟩, ⟨(some 5), none, (.a (.const (.string ⟨#[]⟩))), []⟩, ⟨(some 6), none, (.a (.const (.bool false))), []⟩])
  .ret)
def rc33 : RC := (.seq (.run [⟨(some 4), none, (.a (.const (.string ⟨#[]⟩))), []⟩, ⟨(some 5), none, (.a (.const (.string ⟨#[]⟩))), []⟩, ⟨(some 6), none, (.a (.const (.bool false))), []⟩])
  (.seq (.seq (.run [⟨(some 8), none, (.r (.mv (.tmp 0))), []⟩, ⟨(some 9), none, (.r (.mv (.tmp 1))), []⟩, ⟨(some 10), none, (.c (.fn 46 [(.tmp 8), (.tmp 9)])), []⟩, ⟨(some 7), none, (.a (.tmp 10)), []⟩])
  (.seq (.run [⟨(some 11), none, (.r (.mv (.tmp 7))), []⟩, ⟨(some 12), none, (.r (.bin .geq (.tmp 11) (.const (.int .i64 0)))), []⟩])
  (.cond (.tmp 12)
  (.seq (.run [⟨(some 13), none, (.r (.mv (.tmp 0))), []⟩, ⟨(some 14), none, (.r (.mv (.tmp 7))), []⟩, ⟨(some 15), none, (.r (.sls (.tmp 13) none (some (.tmp 14)))), []⟩, ⟨(some 16), none, (.r (.mv (.tmp 0))), []⟩, ⟨(some 17), none, (.r (.mv (.tmp 7))), []⟩, ⟨(some 18), none, (.r (.mv (.tmp 1))), []⟩, ⟨(some 19), none, (.r (.lens (.tmp 18))), []⟩, ⟨(some 20), none, (.r (.bin .add (.tmp 17) (.tmp 19))), []⟩, ⟨(some 21), none, (.r (.sls (.tmp 16) (some (.tmp 20)) none)), []⟩, ⟨(some 4), none, (.a (.tmp 15)), []⟩, ⟨(some 5), none, (.a (.tmp 21)), []⟩, ⟨(some 6), none, (.a (.const (.bool true))), []⟩])
  .ret)
  .skip)))
  rc33_0))
def ce33 : List (Nat × List Nat × List Nat) := [(3, [0, 1, 2, 3, 4, 5, 6, 7, 8, 9, 10, 11], [0, 0, 3, 0, 0, 0, 32, 112, 248, 7, 1023, 2047])]
def ro33 : List RO := [(.mv (.tmp 4)), (.mv (.tmp 5)), (.mv (.tmp 6))]
theorem ok33 : okFn Tryd.prog 33 23 ce33 = some (rc33, ro33) := by kernel_rfl
/-! strings.genSplit -/
def rc34_0 : RC := (.seq (.run [⟨(some 42), none, (.r (.mv (.tmp 9))), []⟩, ⟨(some 43), none, (.r (.mv (.tmp 10))), []⟩, ⟨(some 44), none, (.r (.mv (.tmp 0))), []⟩, ⟨(some 45), none, (.r (.mv (.tmp 11))), []⟩, ⟨(some 46), none, (.r (.mv (.tmp 2))), []⟩, ⟨(some 47), none, (.r (.bin .add (.tmp 45) (.tmp 46))), []⟩, ⟨(some 48), none, (.r (.sls (.tmp 44) none (some (.tmp 47)))), []⟩, ⟨(some 49), none, (.r (.ia 1 (.tmp 42) (.tmp 43))), []⟩, ⟨none, none, (.e (.st 1 (.tmp 49) (.tmp 48))), []⟩])
  (.seq (.run [⟨(some 50), none, (.r (.mv (.tmp 0))), []⟩, ⟨(some 51), none, (.r (.mv (.tmp 11))), []⟩, ⟨(some 52), none, (.r (.mv (.tmp 1))), []⟩, ⟨(some 53), none, (.r (.lens (.tmp 52))), []⟩, ⟨(some 54), none, (.r (.bin .add (.tmp 51) (.tmp 53))), []⟩, ⟨(some 55), none, (.r (.sls (.tmp 50) (some (.tmp 54)) none)), []⟩, ⟨(some 0), none, (.a (.tmp 55)), []⟩])
  (.run [⟨(some 56), none, (.r (.mv (.tmp 10))), []⟩, ⟨(some 57), none, (.r (.bin .add (.tmp 56) (.const (.int .i64 1)))), []⟩, ⟨(some 10), none, (.a (.tmp 57)), []⟩])))
def rc34_1 : RC := (.block 1 (.seq (.run [⟨(some 37), none, (.r (.mv (.tmp 0))), []⟩, ⟨(some 38), none, (.r (.mv (.tmp 1))), []⟩, ⟨(some 39), none, (.c (.fn 49 [(.tmp 37), (.tmp 38)])), []⟩, ⟨(some 11), none, (.a (.tmp 39)), []⟩])
  (.seq (.seq (.run [⟨(some 40), none, (.r (.mv (.tmp 11))), []⟩, ⟨(some 41), none, (.r (.bin .lss (.tmp 40) (.const (.int .i64 0)))), []⟩])
  (.cond (.tmp 41)
  (.exit 0)
  .skip))
  rc34_0)))
def rc34_2 : RC := (.seq (.seq (.run [⟨(some 34), none, (.r (.mv (.tmp 10))), []⟩, ⟨(some 35), none, (.r (.mv (.tmp 3))), []⟩, ⟨(some 36), none, (.r (.bin .lss (.tmp 34) (.tmp 35))), []⟩])
  (.cond (.tmp 36)
  .skip
  (.exit 0)))
  rc34_1)
def rc34_3 : RC := (.seq (.run [⟨(some 58), none, (.r (.mv (.tmp 9))), []⟩, ⟨(some 59), none, (.r (.mv (.tmp 10))), []⟩, ⟨(some 60), none, (.r (.mv (.tmp 0))), []⟩, ⟨(some 61), none, (.r (.ia 1 (.tmp 58) (.tmp 59))), []⟩, ⟨none, none, (.e (.st 1 (.tmp 61) (.tmp 60))), []⟩])
  (.seq (.run [⟨(some 62), none, (.r (.mv (.tmp 9))), []⟩, ⟨(some 63), none, (.r (.mv (.tmp 10))), []⟩, ⟨(some 64), none, (.r (.bin .add (.tmp 63) (.const (.int .i64 1)))), []⟩, ⟨(some 65), none, (.r (.sl 1 (.tmp 62) none (some (.tmp 64)))), []⟩, ⟨(some 8), none, (.a (.tmp 65)), []⟩])
  .ret))
def rc34_4 : RC := (.seq (.run [⟨(some 25), none, (.r (.mv (.tmp 3))), []⟩, ⟨(some 26), none, (.r (.mv (.tmp 0))), []⟩, ⟨(some 27), none, (.r (.lens (.tmp 26))), []⟩, ⟨(some 28), none, (.r (.bin .add (.tmp 27) (.const (.int .i64 1)))), []⟩, ⟨(some 29), none, (.r (.mn (.tmp 25) (.tmp 28))), []⟩, ⟨(some 3), none, (.a (.tmp 29)), []⟩])
  (.seq (.run [⟨(some 30), none, (.r (.mv (.tmp 3))), []⟩, ⟨(some 31), none, (.e (.mks 9 16 (.string ⟨#[]⟩) (.tmp 30) (.tmp 30))), []⟩, ⟨(some 9), none, (.a (.tmp 31)), []⟩])
  (.seq (.run [⟨(some 32), none, (.r (.mv (.tmp 3))), []⟩, ⟨(some 33), none, (.r (.bin .sub (.tmp 32) (.const (.int .i64 1)))), []⟩, ⟨(some 3), none, (.a (.tmp 33)), []⟩])
  (.seq (.run [⟨(some 10), none, (.a (.const (.int .i64 0))), []⟩])
  (.seq (.block 0 (.loop rc34_2))
  rc34_3)))))
def rc34_5 : RC := (.seq (.seq (.run [⟨(some 19), none, (.r (.mv (.tmp 3))), []⟩, ⟨(some 20), none, (.r (.bin .lss (.tmp 19) (.const (.int .i64 0)))), []⟩])
  (.cond (.tmp 20)
  (.run [⟨(some 21), none, (.r (.mv (.tmp 0))), []⟩, ⟨(some 22), none, (.r (.mv (.tmp 1))), []⟩, ⟨(some 23), none, (.c (.fn 48 [(.tmp 21), (.tmp 22)])), []⟩, ⟨(some 24), none, (.r (.bin .add (.tmp 23) (.const (.int .i64 1)))), []⟩, ⟨(some 3), none, (.a (.tmp 24)), []⟩])
  .skip))
  rc34_4)
def rc34_6 : RC := (.seq (.seq (.run [⟨(some 14), none, (.r (.mv (.tmp 1))), []⟩, ⟨(some 15), none, (.r (.bin .eql (.tmp 14) (.const (.string ⟨#[]⟩)))), []⟩])
  (.cond (.tmp 15)
  (.seq (.run [⟨(some 16), none, (.r (.mv (.tmp 0))), []⟩, ⟨(some 17), none, (.r (.mv (.tmp 3))), []⟩, ⟨(some 18), none, (.c (.fn 47 [(.tmp 16), (.tmp 17)])), []⟩, ⟨(some 8), none, (.a (.tmp 18)), []⟩])
  .ret)
  .skip))
  rc34_5)
def rc34 : RC := (.seq (.run [⟨(some 8), none, (.a (.const (.slice none 0 0))), []⟩])
  (.seq (.seq (.run [⟨(some 12), none, (.r (.mv (.tmp 3))), []⟩, ⟨(some 13), none, (.r (.bin .eql (.tmp 12) (.const (.int .i64 0)))), []⟩])
  (.cond (.tmp 13)
  (.seq (.run [⟨(some 8), none, (.a (.const (.slice none 0 0))), []⟩])
  .ret)
  .skip))
  rc34_6))
def ce34 : List (Nat × List Nat × List Nat) := []
def ro34 : List RO := [(.mv (.tmp 8))]
theorem ok34 : okFn Tryd.prog 34 66 ce34 = some (rc34, ro34) := by kernel_rfl
/-! strings.trimRightByte -/
def rc35_0 : RC := (.block 1 (.run [⟨(some 17), none, (.r (.mv (.tmp 0))), []⟩, ⟨(some 18), none, (.r (.mv (.tmp 0))), []⟩, ⟨(some 19), none, (.r (.lens (.tmp 18))), []⟩, ⟨(some 20), none, (.r (.bin .sub (.tmp 19) (.const (.int .i64 1)))), []⟩, ⟨(some 21), none, (.r (.sls (.tmp 17) none (some (.tmp 20)))), []⟩, ⟨(some 0), none, (.a (.tmp 21)), []⟩]))
def rc35_1 : RC := (.seq (.seq (.run [⟨(some 5), none, (.r (.mv (.tmp 0))), []⟩, ⟨(some 6), none, (.r (.lens (.tmp 5))), []⟩, ⟨(some 7), none, (.r (.bin .gtr (.tmp 6) (.const (.int .i64 0)))), []⟩, ⟨(some 8), none, (.r (.mv (.tmp 7))), []⟩, ⟨(some 9), (some (8, true)), (.r (.mv (.tmp 0))), []⟩, ⟨(some 10), (some (8, true)), (.r (.mv (.tmp 0))), []⟩, ⟨(some 11), (some (8, true)), (.r (.lens (.tmp 10))), []⟩, ⟨(some 12), (some (8, true)), (.r (.bin .sub (.tmp 11) (.const (.int .i64 1)))), []⟩, ⟨(some 13), (some (8, true)), (.r (.ixs (.tmp 9) (.tmp 12))), []⟩, ⟨(some 14), (some (8, true)), (.r (.mv (.tmp 1))), []⟩, ⟨(some 15), (some (8, true)), (.r (.bin .eql (.tmp 13) (.tmp 14))), []⟩, ⟨(some 16), none, (.r (.pick (.tmp 8) (.tmp 15) (.const (.bool false)))), []⟩])
  (.cond (.tmp 16)
  .skip
  (.exit 0)))
  rc35_0)
def rc35_2 : RC := (.seq (.run [⟨(some 22), none, (.r (.mv (.tmp 0))), []⟩, ⟨(some 4), none, (.a (.tmp 22)), []⟩])
  .ret)
def rc35 : RC := (.seq (.run [⟨(some 4), none, (.a (.const (.string ⟨#[]⟩))), []⟩])
  (.seq (.block 0 (.loop rc35_1))
  rc35_2))
def ce35 : List (Nat × List Nat × List Nat) := []
def ro35 : List RO := [(.mv (.tmp 4))]
theorem ok35 : okFn Tryd.prog 35 23 ce35 = some (rc35, ro35) := by kernel_rfl
/-! strings.makeASCIISet -/
def rc36_0 : RC := (.seq (.block 1 (.seq (.run [⟨(some 12), none, (.r (.mv (.tmp 0))), []⟩, ⟨(some 13), none, (.r (.mv (.tmp 4))), []⟩, ⟨(some 14), none, (.r (.ixs (.tmp 12) (.tmp 13))), []⟩, ⟨(some 5), none, (.a (.tmp 14)), []⟩])
  (.seq (.seq (.run [⟨(some 15), none, (.r (.mv (.tmp 5))), []⟩, ⟨(some 16), none, (.r (.bin .geq (.tmp 15) (.const (.int .u8 128)))), []⟩])
  (.cond (.tmp 16)
  (.seq (.run [⟨(some 17), none, (.r (.ldn 256 (.tmp 2))), []⟩, ⟨none, none, (.e (.st 256 (.tmp 2) (.tmp 17))), []⟩, ⟨(some 3), none, (.a (.const (.bool false))), []⟩])
  .ret)
  .skip))
  (.run [⟨(some 18), none, (.r (.mv (.tmp 5))), []⟩, ⟨(some 19), none, (.r (.iaa 256 1 (.tmp 2) (.tmp 18))), []⟩, ⟨none, none, (.e (.st 1 (.tmp 19) (.const (.bool true)))), []⟩]))))
  (.run [⟨(some 10), none, (.r (.mv (.tmp 4))), []⟩, ⟨(some 11), none, (.r (.bin .add (.tmp 10) (.const (.int .i64 1)))), []⟩, ⟨(some 4), none, (.a (.tmp 11)), []⟩]))
def rc36_1 : RC := (.seq (.seq (.run [⟨(some 6), none, (.r (.mv (.tmp 4))), []⟩, ⟨(some 7), none, (.r (.mv (.tmp 0))), []⟩, ⟨(some 8), none, (.r (.lens (.tmp 7))), []⟩, ⟨(some 9), none, (.r (.bin .lss (.tmp 6) (.tmp 8))), []⟩])
  (.cond (.tmp 9)
  .skip
  (.exit 0)))
  rc36_0)
def rc36_2 : RC := (.seq (.run [⟨(some 20), none, (.r (.ldn 256 (.tmp 2))), []⟩, ⟨none, none, (.e (.st 256 (.tmp 2) (.tmp 20))), []⟩, ⟨(some 3), none, (.a (.const (.bool true))), []⟩])
  .ret)
def rc36 : RC := (.seq (.run [⟨(some 2), none, (.e (.al [(.bool false), (.bool false), (.bool false), (.bool false), (.bool false), (.bool false), (.bool false), (.bool false), (.bool false), (.bool false), (.bool false), (.bool false), (.bool false), (.bool false), (.bool false), (.bool false), (.bool false), (.bool false), (.bool false), (.bool false), (.bool false), (.bool false), (.bool false), (.bool false), (.bool false), (.bool false), (.bool false), (.bool false), (.bool false), (.bool false), (.bool false), (.bool false), (.bool false), (.bool false), (.bool false), (.bool false), (.bool false), (.bool false), (.bool false), (.bool false), (.bool false), (.bool false), (.bool false), (.bool false), (.bool false), (.bool false), (.bool false), (.bool false), (.bool false), (.bool false), (.bool false), (.bool false), (.bool false), (.bool false), (.bool false), (.bool false), (.bool false), (.bool false), (.bool false), (.bool false), (.bool false), (.bool false), (.bool false), (.bool false), (.bool false), (.bool false), (.bool false), (.bool false), (.bool false), (.bool false), (.bool false), (.bool false), (.bool false), (.bool false), (.bool false), (.bool false), (.bool false), (.bool false), (.bool false), (.bool false), (.bool false), (.bool false), (.bool false), (.bool false), (.bool false), (.bool false), (.bool false), (.bool false), (.bool false), (.bool false), (.bool false), (.bool false), (.bool false), (.bool false), (.bool false), (.bool false), (.bool false), (.bool false), (.bool false), (.bool false), (.bool false), (.bool false), (.bool false), (.bool false), (.bool false), (.bool false), (.bool false), (.bool false), (.bool false), (.bool false), (.bool false), (.bool false), (.bool false), (.bool false), (.bool false), (.bool false), (.bool false), (.bool false), (.bool false), (.bool false), (.bool false), (.bool false), (.bool false), (.bool false), (.bool false), (.bool false), (.bool false), (.bool false), (.bool false), (.bool false), (.bool false), (.bool false), (.bool false), (.bool false), (.bool false), (.bool false), (.bool false), (.bool false), (.bool false), (.bool false), (.bool false), (.bool false), (.bool false), (.bool false), (.bool false), (.bool false), (.bool false), (.bool false), (.bool false), (.bool false), (.bool false), (.bool false), (.bool false), (.bool false), (.bool false), (.bool false), (.bool false), (.bool false), (.bool false), (.bool false), (.bool false), (.bool false), (.bool false), (.bool false), (.bool false), (.bool false), (.bool false), (.bool false), (.bool false), (.bool false), (.bool false), (.bool false), (.bool false), (.bool false), (.bool false), (.bool false), (.bool false), (.bool false), (.bool false), (.bool false), (.bool false), (.bool false), (.bool false), (.bool false), (.bool false), (.bool false), (.bool false), (.bool false), (.bool false), (.bool false), (.bool false), (.bool false), (.bool false), (.bool false), (.bool false), (.bool false), (.bool false), (.bool false), (.bool false), (.bool false), (.bool false), (.bool false), (.bool false), (.bool false), (.bool false), (.bool false), (.bool false), (.bool false), (.bool false), (.bool false), (.bool false), (.bool false), (.bool false), (.bool false), (.bool false), (.bool false), (.bool false), (.bool false), (.bool false), (.bool false), (.bool false), (.bool false), (.bool false), (.bool false), (.bool false), (.bool false), (.bool false), (.bool false), (.bool false), (.bool false), (.bool false), (.bool false), (.bool false), (.bool false), (.bool false), (.bool false), (.bool false), (.bool false), (.bool false), (.bool false), (.bool false), (.bool false), (.bool false), (.bool false), (.bool false), (.bool false), (.bool false), (.bool false), (.bool false), (.bool false), (.bool false), (.bool false), (.bool false), (.bool false), (.bool false), (.bool false)] 67)), []⟩, ⟨(some 3), none, (.a (.const (.bool false))), []⟩])
  (.seq (.seq (.run [⟨(some 4), none, (.a (.const (.int .i64 0))), []⟩])
  (.block 0 (.loop rc36_1)))
  rc36_2))
def ce36 : List (Nat × List Nat × List Nat) := []
def ro36 : List RO := [(.ldn 256 (.tmp 2)), (.mv (.tmp 3))]
theorem ok36 : okFn Tryd.prog 36 21 ce36 = some (rc36, ro36) := by kernel_rfl
/-! strings.trimRightASCII -/
def rc37_0 : RC := (.block 1 (.seq (.seq (.run [⟨(some 8), none, (.r (.mv (.tmp 1))), []⟩, ⟨(some 9), none, (.r (.mv (.tmp 0))), []⟩, ⟨(some 10), none, (.r (.mv (.tmp 0))), []⟩, ⟨(some 11), none, (.r (.lens (.tmp 10))), []⟩, ⟨(some 12), none, (.r (.bin .sub (.tmp 11) (.const (.int .i64 1)))), []⟩, ⟨(some 13), none, (.r (.ixs (.tmp 9) (.tmp 12))), []⟩, ⟨(some 14), none, (.c (.fn 50 [(.tmp 8), (.tmp 13)])), []⟩, ⟨(some 15), none, (.r (.not (.tmp 14))), []⟩])
  (.cond (.tmp 15)
  (.exit 0)
  .skip))
  (.run [⟨(some 16), none, (.r (.mv (.tmp 0))), []⟩, ⟨(some 17), none, (.r (.mv (.tmp 0))), []⟩, ⟨(some 18), none, (.r (.lens (.tmp 17))), []⟩, ⟨(some 19), none, (.r (.bin .sub (.tmp 18) (.const (.int .i64 1)))), []⟩, ⟨(some 20), none, (.r (.sls (.tmp 16) none (some (.tmp 19)))), []⟩, ⟨(some 0), none, (.a (.tmp 20)), []⟩])))
def rc37_1 : RC := (.seq (.seq (.run [⟨(some 5), none, (.r (.mv (.tmp 0))), []⟩, ⟨(some 6), none, (.r (.lens (.tmp 5))), []⟩, ⟨(some 7), none, (.r (.bin .gtr (.tmp 6) (.const (.int .i64 0)))), []⟩])
  (.cond (.tmp 7)
  .skip
  (.exit 0)))
  rc37_0)
def rc37_2 : RC := (.seq (.run [⟨(some 21), none, (.r (.mv (.tmp 0))), []⟩, ⟨(some 4), none, (.a (.tmp 21)), []⟩])
  .ret)
def rc37 : RC := (.seq (.run [⟨(some 4), none, (.a (.const (.string ⟨#[]⟩))), []⟩])
  (.seq (.block 0 (.loop rc37_1))
  rc37_2))
def ce37 : List (Nat × List Nat × List Nat) := []
def ro37 : List RO := [(.mv (.tmp 4))]
theorem ok37 : okFn Tryd.prog 37 22 ce37 = some (rc37, ro37) := by kernel_rfl
/-! strings.trimRightUnicode -/
def rc38_0 : RC := (.seq (.seq (.run [⟨(some 23), none, (.r (.mv (.tmp 1))), []⟩, ⟨(some 24), none, (.r (.mv (.tmp 5))), []⟩, ⟨(some 25), none, (.c (.fn 52 [(.tmp 23), (.tmp 24)])), []⟩, ⟨(some 26), none, (.r (.not (.tmp 25))), []⟩])
  (.cond (.tmp 26)
  (.exit 0)
  .skip))
  (.run [⟨(some 27), none, (.r (.mv (.tmp 0))), []⟩, ⟨(some 28), none, (.r (.mv (.tmp 0))), []⟩, ⟨(some 29), none, (.r (.lens (.tmp 28))), []⟩, ⟨(some 30), none, (.r (.mv (.tmp 6))), []⟩, ⟨(some 31), none, (.r (.bin .sub (.tmp 29) (.tmp 30))), []⟩, ⟨(some 32), none, (.r (.sls (.tmp 27) none (some (.tmp 31)))), []⟩, ⟨(some 0), none, (.a (.tmp 32)), []⟩]))
def rc38_1 : RC := (.block 1 (.seq (.run [⟨(some 10), none, (.r (.mv (.tmp 0))), []⟩, ⟨(some 11), none, (.r (.mv (.tmp 0))), []⟩, ⟨(some 12), none, (.r (.lens (.tmp 11))), []⟩, ⟨(some 13), none, (.r (.bin .sub (.tmp 12) (.const (.int .i64 1)))), []⟩, ⟨(some 14), none, (.r (.ixs (.tmp 10) (.tmp 13))), []⟩, ⟨(some 15), none, (.r (.cvi .i32 (.tmp 14))), []⟩, ⟨(some 5), none, (.a (.tmp 15)), []⟩, ⟨(some 6), none, (.a (.const (.int .i64 1))), []⟩])
  (.seq (.seq (.run [⟨(some 16), none, (.r (.mv (.tmp 5))), []⟩, ⟨(some 17), none, (.r (.bin .geq (.tmp 16) (.const (.int .i32 128)))), []⟩])
  (.cond (.tmp 17)
  (.run [⟨(some 19), none, (.r (.mv (.tmp 0))), []⟩, ⟨(some 20), none, (.c (.fn 51 [(.tmp 19)])), []⟩, ⟨(some 18), none, (.r (.mv (.tmp 20))), []⟩, ⟨(some 21), none, (.r (.ext 0 (.tmp 18))), []⟩, ⟨(some 22), none, (.r (.ext 1 (.tmp 18))), []⟩, ⟨(some 5), none, (.a (.tmp 21)), []⟩, ⟨(some 6), none, (.a (.tmp 22)), []⟩])
  .skip))
  rc38_0)))
def rc38_2 : RC := (.seq (.seq (.run [⟨(some 7), none, (.r (.mv (.tmp 0))), []⟩, ⟨(some 8), none, (.r (.lens (.tmp 7))), []⟩, ⟨(some 9), none, (.r (.bin .gtr (.tmp 8) (.const (.int .i64 0)))), []⟩])
  (.cond (.tmp 9)
  .skip
  (.exit 0)))
  rc38_1)
def rc38_3 : RC := (.seq (.run [⟨(some 33), none, (.r (.mv (.tmp 0))), []⟩, ⟨(some 4), none, (.a (.tmp 33)), []⟩])
  .ret)
def rc38 : RC := (.seq (.run [⟨(some 4), none, (.a (.const (.string ⟨#[]⟩))), []⟩])
  (.seq (.block 0 (.loop rc38_2))
  rc38_3))
def ce38 : List (Nat × List Nat × List Nat) := []
def ro38 : List RO := [(.mv (.tmp 4))]
theorem ok38 : okFn Tryd.prog 38 34 ce38 = some (rc38, ro38) := by kernel_rfl
/-! strconv.ParseInt -/
def rc39_0 : RC := (.seq (.run [⟨(some 24), none, (.r (.mv (.tmp 8))), []⟩, ⟨(some 6), none, (.a (.tmp 24)), []⟩, ⟨(some 7), none, (.a (.const .nilIface)), []⟩])
  .ret)
def rc39 : RC := (.seq (.run [⟨(some 6), none, (.a (.const (.int .i64 0))), []⟩, ⟨(some 7), none, (.a (.const .nilIface)), []⟩])
  (.seq (.run [⟨(some 10), none, (.r (.mv (.tmp 0))), []⟩, ⟨(some 11), none, (.r (.mv (.tmp 1))), []⟩, ⟨(some 12), none, (.r (.mv (.tmp 2))), []⟩, ⟨(some 13), none, (.c (.fn 53 [(.tmp 10), (.tmp 11), (.tmp 12)])), []⟩, ⟨(some 9), none, (.r (.mv (.tmp 13))), []⟩, ⟨(some 14), none, (.r (.ext 0 (.tmp 9))), []⟩, ⟨(some 15), none, (.r (.ext 1 (.tmp 9))), []⟩, ⟨(some 8), none, (.a (.tmp 14)), []⟩, ⟨(some 7), none, (.a (.tmp 15)), []⟩])
  (.seq (.seq (.run [⟨(some 16), none, (.r (.mv (.tmp 7))), []⟩, ⟨(some 17), none, (.r (.eq true (.iface []) (.tmp 16) (.const .nilIface))), []⟩])
  (.cond (.tmp 17)
  (.seq (.run [⟨(some 18), none, (.r (.mv (.tmp 8))), []⟩, ⟨(some 19), none, (.r (.mv (.tmp 0))), []⟩, ⟨(some 20), none, (.r (.mv (.tmp 1))), []⟩, ⟨(some 21), none, (.r (.mv (.tmp 2))), []⟩, ⟨(some 22), none, (.r (.mv (.tmp 7))), []⟩, ⟨(some 23), none, (.c (.fn 54 [(.const (.string ⟨#[80, 97, 114, 115, 101, 73, 110, 116]⟩)), (.tmp 19), (.tmp 20), (.tmp 21), (.tmp 22)])), []⟩, ⟨(some 6), none, (.a (.tmp 18)), []⟩, ⟨(some 7), none, (.a (.tmp 23)), []⟩])
  .ret)
  .skip))
  rc39_0)))
def ce39 : List (Nat × List Nat × List Nat) := []
def ro39 : List RO := [(.mv (.tmp 6)), (.mv (.tmp 7))]
theorem ok39 : okFn Tryd.prog 39 25 ce39 = some (rc39, ro39) := by kernel_rfl
/-! internal/strconv.small -/
def rc40_0 : RC := (.seq (.run [⟨(some 9), none, (.r (.mv (.tmp 0))), []⟩, ⟨(some 10), none, (.r (.bin .mul (.tmp 9) (.const (.int .i64 2)))), []⟩, ⟨(some 11), none, (.r (.mv (.tmp 0))), []⟩, ⟨(some 12), none, (.r (.bin .mul (.tmp 11) (.const (.int .i64 2)))), []⟩, ⟨(some 13), none, (.r (.bin .add (.tmp 12) (.const (.int .i64 2)))), []⟩, ⟨(some 14), none, (.r (.sls (.const (.string ⟨#[48, 48, 48, 49, 48, 50, 48, 51, 48, 52, 48, 53, 48, 54, 48, 55, 48, 56, 48, 57, 49, 48, 49, 49, 49, 50, 49, 51, 49, 52, 49, 53, 49, 54, 49, 55, 49, 56, 49, 57, 50, 48, 50, 49, 50, 50, 50, 51, 50, 52, 50, 53, 50, 54, 50, 55, 50, 56, 50, 57, 51, 48, 51, 49, 51, 50, 51, 51, 51, 52, 51, 53, 51, 54, 51, 55, 51, 56, 51, 57, 52, 48, 52, 49, 52, 50, 52, 51, 52, 52, 52, 53, 52, 54, 52, 55, 52, 56, 52, 57, 53, 48, 53, 49, 53, 50, 53, 51, 53, 52, 53, 53, 53, 54, 53, 55, 53, 56, 53, 57, 54, 48, 54, 49, 54, 50, 54, 51, 54, 52, 54, 53, 54, 54, 54, 55, 54, 56, 54, 57, 55, 48, 55, 49, 55, 50, 55, 51, 55, 52, 55, 53, 55, 54, 55, 55, 55, 56, 55, 57, 56, 48, 56, 49, 56, 50, 56, 51, 56, 52, 56, 53, 56, 54, 56, 55, 56, 56, 56, 57, 57, 48, 57, 49, 57, 50, 57, 51, 57, 52, 57, 53, 57, 54, 57, 55, 57, 56, 57, 57]⟩)) (some (.tmp 10)) (some (.tmp 13)))), []⟩, ⟨(some 2), none, (.a (.tmp 14)), []⟩])
  .ret)
def rc40 : RC := (.seq (.run [⟨(some 2), none, (.a (.const (.string ⟨#[]⟩))), []⟩])
  (.seq (.seq (.run [⟨(some 3), none, (.r (.mv (.tmp 0))), []⟩, ⟨(some 4), none, (.r (.bin .lss (.tmp 3) (.const (.int .i64 10)))), []⟩])
  (.cond (.tmp 4)
  (.seq (.run [⟨(some 5), none, (.r (.mv (.tmp 0))), []⟩, ⟨(some 6), none, (.r (.mv (.tmp 0))), []⟩, ⟨(some 7), none, (.r (.bin .add (.tmp 6) (.const (.int .i64 1)))), []⟩, ⟨(some 8), none, (.r (.sls (.const (.string ⟨#[48, 49, 50, 51, 52, 53, 54, 55, 56, 57, 97, 98, 99, 100, 101, 102, 103, 104, 105, 106, 107, 108, 109, 110, 111, 112, 113, 114, 115, 116, 117, 118, 119, 120, 121, 122]⟩)) (some (.tmp 5)) (some (.tmp 7)))), []⟩, ⟨(some 2), none, (.a (.tmp 8)), []⟩])
  .ret)
  .skip))
  rc40_0))
def ce40 : List (Nat × List Nat × List Nat) := []
def ro40 : List RO := [(.mv (.tmp 2))]
theorem ok40 : okFn Tryd.prog 40 15 ce40 = some (rc40, ro40) := by kernel_rfl
/-! internal/strconv.numDigits -/

def rc41 : RC := (.seq (.run [⟨(some 2), none, (.a (.const (.int .i64 0))), []⟩])
  (.seq (.run [⟨(some 4), none, (.r (.mv (.tmp 0))), []⟩, ⟨(some 5), none, (.c (.fn 56 [(.tmp 4)])), []⟩, ⟨(some 6), none, (.c (.fn 55 [(.tmp 5)])), []⟩, ⟨(some 3), none, (.a (.tmp 6)), []⟩])
  (.seq (.run [⟨(some 7), none, (.r (.mv (.tmp 3))), []⟩, ⟨(some 8), none, (.r (.mv (.tmp 0))), []⟩, ⟨(some 9), none, (.r (.mv (.tmp 3))), []⟩, ⟨(some 10), none, (.r (.iaa 20 1 (.global 0) (.tmp 9))), []⟩, ⟨(some 11), none, (.r (.ld (.tmp 10))), []⟩, ⟨(some 12), none, (.r (.bin .geq (.tmp 8) (.tmp 11))), []⟩, ⟨(some 13), none, (.c (.fn 57 [(.tmp 12)])), []⟩, ⟨(some 14), none, (.r (.bin .add (.tmp 7) (.tmp 13))), []⟩, ⟨(some 2), none, (.a (.tmp 14)), []⟩])
  .ret)))
def ce41 : List (Nat × List Nat × List Nat) := []
def ro41 : List RO := [(.mv (.tmp 2))]
theorem ok41 : okFn Tryd.prog 41 15 ce41 = some (rc41, ro41) := by kernel_rfl
/-! internal/strconv.formatBase10 -/
def rc42_0 : RC := (.block 1 (.seq (.run [⟨(some 21), none, (.r (.mv (.tmp 1))), []⟩, ⟨(some 22), none, (.r (.bin .rem (.tmp 21) (.const (.int .u64 100000000)))), []⟩, ⟨(some 23), none, (.r (.cvi .u32 (.tmp 22))), []⟩, ⟨(some 5), none, (.a (.tmp 23)), []⟩])
  (.seq (.run [⟨(some 24), none, (.r (.mv (.tmp 1))), []⟩, ⟨(some 25), none, (.r (.bin .quo (.tmp 24) (.const (.int .u64 100000000)))), []⟩, ⟨(some 1), none, (.a (.tmp 25)), []⟩])
  (.seq (.run [⟨(some 26), none, (.r (.mv (.tmp 5))), []⟩, ⟨(some 27), none, (.r (.bin .quo (.tmp 26) (.const (.int .u32 10000)))), []⟩, ⟨(some 28), none, (.r (.mv (.tmp 5))), []⟩, ⟨(some 29), none, (.r (.bin .rem (.tmp 28) (.const (.int .u32 10000)))), []⟩, ⟨(some 6), none, (.a (.tmp 27)), []⟩, ⟨(some 7), none, (.a (.tmp 29)), []⟩])
  (.seq (.run [⟨(some 30), none, (.r (.mv (.tmp 7))), []⟩, ⟨(some 31), none, (.r (.bin .quo (.tmp 30) (.const (.int .u32 100)))), []⟩, ⟨(some 32), none, (.r (.bin .mul (.tmp 31) (.const (.int .u32 2)))), []⟩, ⟨(some 33), none, (.r (.mv (.tmp 7))), []⟩, ⟨(some 34), none, (.r (.bin .rem (.tmp 33) (.const (.int .u32 100)))), []⟩, ⟨(some 35), none, (.r (.bin .mul (.tmp 34) (.const (.int .u32 2)))), []⟩, ⟨(some 8), none, (.a (.tmp 32)), []⟩, ⟨(some 9), none, (.a (.tmp 35)), []⟩])
  (.seq (.run [⟨(some 36), none, (.r (.mv (.tmp 6))), []⟩, ⟨(some 37), none, (.r (.bin .quo (.tmp 36) (.const (.int .u32 100)))), []⟩, ⟨(some 38), none, (.r (.bin .mul (.tmp 37) (.const (.int .u32 2)))), []⟩, ⟨(some 39), none, (.r (.mv (.tmp 6))), []⟩, ⟨(some 40), none, (.r (.bin .rem (.tmp 39) (.const (.int .u32 100)))), []⟩, ⟨(some 41), none, (.r (.bin .mul (.tmp 40) (.const (.int .u32 2)))), []⟩, ⟨(some 10), none, (.a (.tmp 38)), []⟩, ⟨(some 11), none, (.a (.tmp 41)), []⟩])
  (.seq (.run [⟨(some 42), none, (.r (.mv (.tmp 0))), []⟩, ⟨(some 43), none, (.r (.mv (.tmp 4))), []⟩, ⟨(some 44), none, (.r (.bin .sub (.tmp 43) (.const (.int .i64 1)))), []⟩, ⟨(some 45), none, (.r (.mv (.tmp 0))), []⟩, ⟨(some 46), none, (.r (.mv (.tmp 4))), []⟩, ⟨(some 47), none, (.r (.bin .sub (.tmp 46) (.const (.int .i64 2)))), []⟩, ⟨(some 48), none, (.r (.mv (.tmp 9))), []⟩, ⟨(some 49), none, (.r (.bin .add (.tmp 48) (.const (.int .u32 1)))), []⟩, ⟨(some 50), none, (.r (.ixs (.const (.string ⟨#[48, 48, 48, 49, 48, 50, 48, 51, 48, 52, 48, 53, 48, 54, 48, 55, 48, 56, 48, 57, 49, 48, 49, 49, 49, 50, 49, 51, 49, 52, 49, 53, 49, 54, 49, 55, 49, 56, 49, 57, 50, 48, 50, 49, 50, 50, 50, 51, 50, 52, 50, 53, 50, 54, 50, 55, 50, 56, 50, 57, 51, 48, 51, 49, 51, 50, 51, 51, 51, 52, 51, 53, 51, 54, 51, 55, 51, 56, 51, 57, 52, 48, 52, 49, 52, 50, 52, 51, 52, 52, 52, 53, 52, 54, 52, 55, 52, 56, 52, 57, 53, 48, 53, 49, 53, 50, 53, 51, 53, 52, 53, 53, 53, 54, 53, 55, 53, 56, 53, 57, 54, 48, 54, 49, 54, 50, 54, 51, 54, 52, 54, 53, 54, 54, 54, 55, 54, 56, 54, 57, 55, 48, 55, 49, 55, 50, 55, 51, 55, 52, 55, 53, 55, 54, 55, 55, 55, 56, 55, 57, 56, 48, 56, 49, 56, 50, 56, 51, 56, 52, 56, 53, 56, 54, 56, 55, 56, 56, 56, 57, 57, 48, 57, 49, 57, 50, 57, 51, 57, 52, 57, 53, 57, 54, 57, 55, 57, 56, 57, 57]⟩)) (.tmp 49))), []⟩, ⟨(some 51), none, (.r (.mv (.tmp 9))), []⟩, ⟨(some 52), none, (.r (.ixs (.const (.string ⟨#[48, 48, 48, 49, 48, 50, 48, 51, 48, 52, 48, 53, 48, 54, 48, 55, 48, 56, 48, 57, 49, 48, 49, 49, 49, 50, 49, 51, 49, 52, 49, 53, 49, 54, 49, 55, 49, 56, 49, 57, 50, 48, 50, 49, 50, 50, 50, 51, 50, 52, 50, 53, 50, 54, 50, 55, 50, 56, 50, 57, 51, 48, 51, 49, 51, 50, 51, 51, 51, 52, 51, 53, 51, 54, 51, 55, 51, 56, 51, 57, 52, 48, 52, 49, 52, 50, 52, 51, 52, 52, 52, 53, 52, 54, 52, 55, 52, 56, 52, 57, 53, 48, 53, 49, 53, 50, 53, 51, 53, 52, 53, 53, 53, 54, 53, 55, 53, 56, 53, 57, 54, 48, 54, 49, 54, 50, 54, 51, 54, 52, 54, 53, 54, 54, 54, 55, 54, 56, 54, 57, 55, 48, 55, 49, 55, 50, 55, 51, 55, 52, 55, 53, 55, 54, 55, 55, 55, 56, 55, 57, 56, 48, 56, 49, 56, 50, 56, 51, 56, 52, 56, 53, 56, 54, 56, 55, 56, 56, 56, 57, 57, 48, 57, 49, 57, 50, 57, 51, 57, 52, 57, 53, 57, 54, 57, 55, 57, 56, 57, 57]⟩)) (.tmp 51))), []⟩, ⟨(some 53), none, (.r (.ia 1 (.tmp 42) (.tmp 44))), []⟩, ⟨none, none, (.e (.st 1 (.tmp 53) (.tmp 50))), []⟩, ⟨(some 54), none, (.r (.ia 1 (.tmp 45) (.tmp 47))), []⟩, ⟨none, none, (.e (.st 1 (.tmp 54) (.tmp 52))), []⟩])
  (.seq (.run [⟨(some 55), none, (.r (.mv (.tmp 0))), []⟩, ⟨(some 56), none, (.r (.mv (.tmp 4))), []⟩, ⟨(some 57), none, (.r (.bin .sub (.tmp 56) (.const (.int .i64 3)))), []⟩, ⟨(some 58), none, (.r (.mv (.tmp 0))), []⟩, ⟨(some 59), none, (.r (.mv (.tmp 4))), []⟩, ⟨(some 60), none, (.r (.bin .sub (.tmp 59) (.const (.int .i64 4)))), []⟩, ⟨(some 61), none, (.r (.mv (.tmp 8))), []⟩, ⟨(some 62), none, (.r (.bin .add (.tmp 61) (.const (.int .u32 1)))), []⟩, ⟨(some 63), none, (.r (.ixs (.const (.string ⟨#[48, 48, 48, 49, 48, 50, 48, 51, 48, 52, 48, 53, 48, 54, 48, 55, 48, 56, 48, 57, 49, 48, 49, 49, 49, 50, 49, 51, 49, 52, 49, 53, 49, 54, 49, 55, 49, 56, 49, 57, 50, 48, 50, 49, 50, 50, 50, 51, 50, 52, 50, 53, 50, 54, 50, 55, 50, 56, 50, 57, 51, 48, 51, 49, 51, 50, 51, 51, 51, 52, 51, 53, 51, 54, 51, 55, 51, 56, 51, 57, 52, 48, 52, 49, 52, 50, 52, 51, 52, 52, 52, 53, 52, 54, 52, 55, 52, 56, 52, 57, 53, 48, 53, 49, 53, 50, 53, 51, 53, 52, 53, 53, 53, 54, 53, 55, 53, 56, 53, 57, 54, 48, 54, 49, 54, 50, 54, 51, 54, 52, 54, 53, 54, 54, 54, 55, 54, 56, 54, 57, 55, 48, 55, 49, 55, 50, 55, 51, 55, 52, 55, 53, 55, 54, 55, 55, 55, 56, 55, 57, 56, 48, 56, 49, 56, 50, 56, 51, 56, 52, 56, 53, 56, 54, 56, 55, 56, 56, 56, 57, 57, 48, 57, 49, 57, 50, 57, 51, 57, 52, 57, 53, 57, 54, 57, 55, 57, 56, 57, 57]⟩)) (.tmp 62))), []⟩, ⟨(some 64), none, (.r (.mv (.tmp 8))), []⟩, ⟨(some 65), none, (.r (.ixs (.const (.string ⟨#[48, 48, 48, 49, 48, 50, 48, 51, 48, 52, 48, 53, 48, 54, 48, 55, 48, 56, 48, 57, 49, 48, 49, 49, 49, 50, 49, 51, 49, 52, 49, 53, 49, 54, 49, 55, 49, 56, 49, 57, 50, 48, 50, 49, 50, 50, 50, 51, 50, 52, 50, 53, 50, 54, 50, 55, 50, 56, 50, 57, 51, 48, 51, 49, 51, 50, 51, 51, 51, 52, 51, 53, 51, 54, 51, 55, 51, 56, 51, 57, 52, 48, 52, 49, 52, 50, 52, 51, 52, 52, 52, 53, 52, 54, 52, 55, 52, 56, 52, 57, 53, 48, 53, 49, 53, 50, 53, 51, 53, 52, 53, 53, 53, 54, 53, 55, 53, 56, 53, 57, 54, 48, 54, 49, 54, 50, 54, 51, 54, 52, 54, 53, 54, 54, 54, 55, 54, 56, 54, 57, 55, 48, 55, 49, 55, 50, 55, 51, 55, 52, 55, 53, 55, 54, 55, 55, 55, 56, 55, 57, 56, 48, 56, 49, 56, 50, 56, 51, 56, 52, 56, 53, 56, 54, 56, 55, 56, 56, 56, 57, 57, 48, 57, 49, 57, 50, 57, 51, 57, 52, 57, 53, 57, 54, 57, 55, 57, 56, 57, 57]⟩)) (.tmp 64))), []⟩, ⟨(some 66), none, (.r (.ia 1 (.tmp 55) (.tmp 57))), []⟩, ⟨none, none, (.e (.st 1 (.tmp 66) (.tmp 63))), []⟩, ⟨(some 67), none, (.r (.ia 1 (.tmp 58) (.tmp 60))), []⟩, ⟨none, none, (.e (.st 1 (.tmp 67) (.tmp 65))), []⟩])
  (.seq (.run [⟨(some 68), none, (.r (.mv (.tmp 0))), []⟩, ⟨(some 69), none, (.r (.mv (.tmp 4))), []⟩, ⟨(some 70), none, (.r (.bin .sub (.tmp 69) (.const (.int .i64 5)))), []⟩, ⟨(some 71), none, (.r (.mv (.tmp 0))), []⟩, ⟨(some 72), none, (.r (.mv (.tmp 4))), []⟩, ⟨(some 73), none, (.r (.bin .sub (.tmp 72) (.const (.int .i64 6)))), []⟩, ⟨(some 74), none, (.r (.mv (.tmp 11))), []⟩, ⟨(some 75), none, (.r (.bin .add (.tmp 74) (.const (.int .u32 1)))), []⟩, ⟨(some 76), none, (.r (.ixs (.const (.string ⟨#[48, 48, 48, 49, 48, 50, 48, 51, 48, 52, 48, 53, 48, 54, 48, 55, 48, 56, 48, 57, 49, 48, 49, 49, 49, 50, 49, 51, 49, 52, 49, 53, 49, 54, 49, 55, 49, 56, 49, 57, 50, 48, 50, 49, 50, 50, 50, 51, 50, 52, 50, 53, 50, 54, 50, 55, 50, 56, 50, 57, 51, 48, 51, 49, 51, 50, 51, 51, 51, 52, 51, 53, 51, 54, 51, 55, 51, 56, 51, 57, 52, 48, 52, 49, 52, 50, 52, 51, 52, 52, 52, 53, 52, 54, 52, 55, 52, 56, 52, 57, 53, 48, 53, 49, 53, 50, 53, 51, 53, 52, 53, 53, 53, 54, 53, 55, 53, 56, 53, 57, 54, 48, 54, 49, 54, 50, 54, 51, 54, 52, 54, 53, 54, 54, 54, 55, 54, 56, 54, 57, 55, 48, 55, 49, 55, 50, 55, 51, 55, 52, 55, 53, 55, 54, 55, 55, 55, 56, 55, 57, 56, 48, 56, 49, 56, 50, 56, 51, 56, 52, 56, 53, 56, 54, 56, 55, 56, 56, 56, 57, 57, 48, 57, 49, 57, 50, 57, 51, 57, 52, 57, 53, 57, 54, 57, 55, 57, 56, 57, 57]⟩)) (.tmp 75))), []⟩, ⟨(some 77), none, (.r (.mv (.tmp 11))), []⟩, ⟨(some 78), none, (.r (.ixs (.const (.string ⟨#[48, 48, 48, 49, 48, 50, 48, 51, 48, 52, 48, 53, 48, 54, 48, 55, 48, 56, 48, 57, 49, 48, 49, 49, 49, 50, 49, 51, 49, 52, 49, 53, 49, 54, 49, 55, 49, 56, 49, 57, 50, 48, 50, 49, 50, 50, 50, 51, 50, 52, 50, 53, 50, 54, 50, 55, 50, 56, 50, 57, 51, 48, 51, 49, 51, 50, 51, 51, 51, 52, 51, 53, 51, 54, 51, 55, 51, 56, 51, 57, 52, 48, 52, 49, 52, 50, 52, 51, 52, 52, 52, 53, 52, 54, 52, 55, 52, 56, 52, 57, 53, 48, 53, 49, 53, 50, 53, 51, 53, 52, 53, 53, 53, 54, 53, 55, 53, 56, 53, 57, 54, 48, 54, 49, 54, 50, 54, 51, 54, 52, 54, 53, 54, 54, 54, 55, 54, 56, 54, 57, 55, 48, 55, 49, 55, 50, 55, 51, 55, 52, 55, 53, 55, 54, 55, 55, 55, 56, 55, 57, 56, 48, 56, 49, 56, 50, 56, 51, 56, 52, 56, 53, 56, 54, 56, 55, 56, 56, 56, 57, 57, 48, 57, 49, 57, 50, 57, 51, 57, 52, 57, 53, 57, 54, 57, 55, 57, 56, 57, 57]⟩)) (.tmp 77))), []⟩, ⟨(some 79), none, (.r (.ia 1 (.tmp 68) (.tmp 70))), []⟩, ⟨none, none, (.e (.st 1 (.tmp 79) (.tmp 76))), []⟩, ⟨(some 80), none, (.r (.ia 1 (.tmp 71) (.tmp 73))), []⟩, ⟨none, none, (.e (.st 1 (.tmp 80) (.tmp 78))), []⟩])
  (.seq (.run [⟨(some 81), none, (.r (.mv (.tmp 0))), []⟩, ⟨(some 82), none, (.r (.mv (.tmp 4))), []⟩, ⟨(some 83), none, (.r (.bin .sub (.tmp 82) (.const (.int .i64 7)))), []⟩, ⟨(some 84), none, (.r (.mv (.tmp 0))), []⟩, ⟨(some 85), none, (.r (.mv (.tmp 4))), []⟩, ⟨(some 86), none, (.r (.bin .sub (.tmp 85) (.const (.int .i64 8)))), []⟩, ⟨(some 87), none, (.r (.mv (.tmp 10))), []⟩, ⟨(some 88), none, (.r (.bin .add (.tmp 87) (.const (.int .u32 1)))), []⟩, ⟨(some 89), none, (.r (.ixs (.const (.string ⟨#[48, 48, 48, 49, 48, 50, 48, 51, 48, 52, 48, 53, 48, 54, 48, 55, 48, 56, 48, 57, 49, 48, 49, 49, 49, 50, 49, 51, 49, 52, 49, 53, 49, 54, 49, 55, 49, 56, 49, 57, 50, 48, 50, 49, 50, 50, 50, 51, 50, 52, 50, 53, 50, 54, 50, 55, 50, 56, 50, 57, 51, 48, 51, 49, 51, 50, 51, 51, 51, 52, 51, 53, 51, 54, 51, 55, 51, 56, 51, 57, 52, 48, 52, 49, 52, 50, 52, 51, 52, 52, 52, 53, 52, 54, 52, 55, 52, 56, 52, 57, 53, 48, 53, 49, 53, 50, 53, 51, 53, 52, 53, 53, 53, 54, 53, 55, 53, 56, 53, 57, 54, 48, 54, 49, 54, 50, 54, 51, 54, 52, 54, 53, 54, 54, 54, 55, 54, 56, 54, 57, 55, 48, 55, 49, 55, 50, 55, 51, 55, 52, 55, 53, 55, 54, 55, 55, 55, 56, 55, 57, 56, 48, 56, 49, 56, 50, 56, 51, 56, 52, 56, 53, 56, 54, 56, 55, 56, 56, 56, 57, 57, 48, 57, 49, 57, 50, 57, 51, 57, 52, 57, 53, 57, 54, 57, 55, 57, 56, 57, 57]⟩)) (.tmp 88))), []⟩, ⟨(some 90), none, (.r (.mv (.tmp 10))), []⟩, ⟨(some 91), none, (.r (.ixs (.const (.string ⟨#[48, 48, 48, 49, 48, 50, 48, 51, 48, 52, 48, 53, 48, 54, 48, 55, 48, 56, 48, 57, 49, 48, 49, 49, 49, 50, 49, 51, 49, 52, 49, 53, 49, 54, 49, 55, 49, 56, 49, 57, 50, 48, 50, 49, 50, 50, 50, 51, 50, 52, 50, 53, 50, 54, 50, 55, 50, 56, 50, 57, 51, 48, 51, 49, 51, 50, 51, 51, 51, 52, 51, 53, 51, 54, 51, 55, 51, 56, 51, 57, 52, 48, 52, 49, 52, 50, 52, 51, 52, 52, 52, 53, 52, 54, 52, 55, 52, 56, 52, 57, 53, 48, 53, 49, 53, 50, 53, 51, 53, 52, 53, 53, 53, 54, 53, 55, 53, 56, 53, 57, 54, 48, 54, 49, 54, 50, 54, 51, 54, 52, 54, 53, 54, 54, 54, 55, 54, 56, 54, 57, 55, 48, 55, 49, 55, 50, 55, 51, 55, 52, 55, 53, 55, 54, 55, 55, 55, 56, 55, 57, 56, 48, 56, 49, 56, 50, 56, 51, 56, 52, 56, 53, 56, 54, 56, 55, 56, 56, 56, 57, 57, 48, 57, 49, 57, 50, 57, 51, 57, 52, 57, 53, 57, 54, 57, 55, 57, 56, 57, 57]⟩)) (.tmp 90))), []⟩, ⟨(some 92), none, (.r (.ia 1 (.tmp 81) (.tmp 83))), []⟩, ⟨none, none, (.e (.st 1 (.tmp 92) (.tmp 89))), []⟩, ⟨(some 93), none, (.r (.ia 1 (.tmp 84) (.tmp 86))), []⟩, ⟨none, none, (.e (.st 1 (.tmp 93) (.tmp 91))), []⟩])
  (.run [⟨(some 94), none, (.r (.mv (.tmp 4))), []⟩, ⟨(some 95), none, (.r (.bin .sub (.tmp 94) (.const (.int .i64 8)))), []⟩, ⟨(some 4), none, (.a (.tmp 95)), []⟩])))))))))))
def rc42_1 : RC := (.seq (.seq (.run [⟨(some 19), none, (.r (.mv (.tmp 4))), []⟩, ⟨(some 20), none, (.r (.bin .geq (.tmp 19) (.const (.int .i64 8)))), []⟩])
  (.cond (.tmp 20)
  .skip
  (.exit 0)))
  rc42_0)
def rc42_2 : RC := (.seq (.run [⟨(some 160), none, (.r (.mv (.tmp 4))), []⟩, ⟨(some 161), none, (.r (.bin .gtr (.tmp 160) (.const (.int .i64 0)))), []⟩])
  (.cond (.tmp 161)
  (.run [⟨(some 162), none, (.r (.mv (.tmp 0))), []⟩, ⟨(some 163), none, (.r (.mv (.tmp 12))), []⟩, ⟨(some 164), none, (.r (.bin .add (.const (.int .u32 48)) (.tmp 163))), []⟩, ⟨(some 165), none, (.r (.cvi .u8 (.tmp 164))), []⟩, ⟨(some 166), none, (.r (.ia 1 (.tmp 162) (.const (.int .i64 0)))), []⟩, ⟨none, none, (.e (.st 1 (.tmp 166) (.tmp 165))), []⟩])
  .skip))
def rc42_3 : RC := (.seq (.seq (.run [⟨(some 138), none, (.r (.mv (.tmp 4))), []⟩, ⟨(some 139), none, (.r (.bin .geq (.tmp 138) (.const (.int .i64 2)))), []⟩])
  (.cond (.tmp 139)
  (.seq (.run [⟨(some 140), none, (.r (.mv (.tmp 12))), []⟩, ⟨(some 141), none, (.r (.bin .rem (.tmp 140) (.const (.int .u32 100)))), []⟩, ⟨(some 142), none, (.r (.bin .mul (.tmp 141) (.const (.int .u32 2)))), []⟩, ⟨(some 16), none, (.a (.tmp 142)), []⟩])
  (.seq (.run [⟨(some 143), none, (.r (.mv (.tmp 12))), []⟩, ⟨(some 144), none, (.r (.bin .quo (.tmp 143) (.const (.int .u32 100)))), []⟩, ⟨(some 12), none, (.a (.tmp 144)), []⟩])
  (.seq (.run [⟨(some 145), none, (.r (.mv (.tmp 0))), []⟩, ⟨(some 146), none, (.r (.mv (.tmp 4))), []⟩, ⟨(some 147), none, (.r (.bin .sub (.tmp 146) (.const (.int .i64 1)))), []⟩, ⟨(some 148), none, (.r (.mv (.tmp 0))), []⟩, ⟨(some 149), none, (.r (.mv (.tmp 4))), []⟩, ⟨(some 150), none, (.r (.bin .sub (.tmp 149) (.const (.int .i64 2)))), []⟩, ⟨(some 151), none, (.r (.mv (.tmp 16))), []⟩, ⟨(some 152), none, (.r (.bin .add (.tmp 151) (.const (.int .u32 1)))), []⟩, ⟨(some 153), none, (.r (.ixs (.const (.string ⟨#[48, 48, 48, 49, 48, 50, 48, 51, 48, 52, 48, 53, 48, 54, 48, 55, 48, 56, 48, 57, 49, 48, 49, 49, 49, 50, 49, 51, 49, 52, 49, 53, 49, 54, 49, 55, 49, 56, 49, 57, 50, 48, 50, 49, 50, 50, 50, 51, 50, 52, 50, 53, 50, 54, 50, 55, 50, 56, 50, 57, 51, 48, 51, 49, 51, 50, 51, 51, 51, 52, 51, 53, 51, 54, 51, 55, 51, 56, 51, 57, 52, 48, 52, 49, 52, 50, 52, 51, 52, 52, 52, 53, 52, 54, 52, 55, 52, 56, 52, 57, 53, 48, 53, 49, 53, 50, 53, 51, 53, 52, 53, 53, 53, 54, 53, 55, 53, 56, 53, 57, 54, 48, 54, 49, 54, 50, 54, 51, 54, 52, 54, 53, 54, 54, 54, 55, 54, 56, 54, 57, 55, 48, 55, 49, 55, 50, 55, 51, 55, 52, 55, 53, 55, 54, 55, 55, 55, 56, 55, 57, 56, 48, 56, 49, 56, 50, 56, 51, 56, 52, 56, 53, 56, 54, 56, 55, 56, 56, 56, 57, 57, 48, 57, 49, 57, 50, 57, 51, 57, 52, 57, 53, 57, 54, 57, 55, 57, 56, 57, 57]⟩)) (.tmp 152))), []⟩, ⟨(some 154), none, (.r (.mv (.tmp 16))), []⟩, ⟨(some 155), none, (.r (.ixs (.const (.string ⟨#[48, 48, 48, 49, 48, 50, 48, 51, 48, 52, 48, 53, 48, 54, 48, 55, 48, 56, 48, 57, 49, 48, 49, 49, 49, 50, 49, 51, 49, 52, 49, 53, 49, 54, 49, 55, 49, 56, 49, 57, 50, 48, 50, 49, 50, 50, 50, 51, 50, 52, 50, 53, 50, 54, 50, 55, 50, 56, 50, 57, 51, 48, 51, 49, 51, 50, 51, 51, 51, 52, 51, 53, 51, 54, 51, 55, 51, 56, 51, 57, 52, 48, 52, 49, 52, 50, 52, 51, 52, 52, 52, 53, 52, 54, 52, 55, 52, 56, 52, 57, 53, 48, 53, 49, 53, 50, 53, 51, 53, 52, 53, 53, 53, 54, 53, 55, 53, 56, 53, 57, 54, 48, 54, 49, 54, 50, 54, 51, 54, 52, 54, 53, 54, 54, 54, 55, 54, 56, 54, 57, 55, 48, 55, 49, 55, 50, 55, 51, 55, 52, 55, 53, 55, 54, 55, 55, 55, 56, 55, 57, 56, 48, 56, 49, 56, 50, 56, 51, 56, 52, 56, 53, 56, 54, 56, 55, 56, 56, 56, 57, 57, 48, 57, 49, 57, 50, 57, 51, 57, 52, 57, 53, 57, 54, 57, 55, 57, 56, 57, 57]⟩)) (.tmp 154))), []⟩, ⟨(some 156), none, (.r (.ia 1 (.tmp 145) (.tmp 147))), []⟩, ⟨none, none, (.e (.st 1 (.tmp 156) (.tmp 153))), []⟩, ⟨(some 157), none, (.r (.ia 1 (.tmp 148) (.tmp 150))), []⟩, ⟨none, none, (.e (.st 1 (.tmp 157) (.tmp 155))), []⟩])
  (.run [⟨(some 158), none, (.r (.mv (.tmp 4))), []⟩, ⟨(some 159), none, (.r (.bin .sub (.tmp 158) (.const (.int .i64 2)))), []⟩, ⟨(some 4), none, (.a (.tmp 159)), []⟩]))))
  .skip))
  rc42_2)
def rc42_4 : RC := (.seq (.run [⟨(some 96), none, (.r (.mv (.tmp 1))), []⟩, ⟨(some 97), none, (.r (.cvi .u32 (.tmp 96))), []⟩, ⟨(some 12), none, (.a (.tmp 97)), []⟩])
  (.seq (.seq (.run [⟨(some 98), none, (.r (.mv (.tmp 4))), []⟩, ⟨(some 99), none, (.r (.bin .geq (.tmp 98) (.const (.int .i64 4)))), []⟩])
  (.cond (.tmp 99)
  (.seq (.run [⟨(some 100), none, (.r (.mv (.tmp 12))), []⟩, ⟨(some 101), none, (.r (.bin .rem (.tmp 100) (.const (.int .u32 10000)))), []⟩, ⟨(some 13), none, (.a (.tmp 101)), []⟩])
  (.seq (.run [⟨(some 102), none, (.r (.mv (.tmp 12))), []⟩, ⟨(some 103), none, (.r (.bin .quo (.tmp 102) (.const (.int .u32 10000)))), []⟩, ⟨(some 12), none, (.a (.tmp 103)), []⟩])
  (.seq (.run [⟨(some 104), none, (.r (.mv (.tmp 13))), []⟩, ⟨(some 105), none, (.r (.bin .quo (.tmp 104) (.const (.int .u32 100)))), []⟩, ⟨(some 106), none, (.r (.bin .mul (.tmp 105) (.const (.int .u32 2)))), []⟩, ⟨(some 107), none, (.r (.mv (.tmp 13))), []⟩, ⟨(some 108), none, (.r (.bin .rem (.tmp 107) (.const (.int .u32 100)))), []⟩, ⟨(some 109), none, (.r (.bin .mul (.tmp 108) (.const (.int .u32 2)))), []⟩, ⟨(some 14), none, (.a (.tmp 106)), []⟩, ⟨(some 15), none, (.a (.tmp 109)), []⟩])
  (.seq (.run [⟨(some 110), none, (.r (.mv (.tmp 0))), []⟩, ⟨(some 111), none, (.r (.mv (.tmp 4))), []⟩, ⟨(some 112), none, (.r (.bin .sub (.tmp 111) (.const (.int .i64 1)))), []⟩, ⟨(some 113), none, (.r (.mv (.tmp 0))), []⟩, ⟨(some 114), none, (.r (.mv (.tmp 4))), []⟩, ⟨(some 115), none, (.r (.bin .sub (.tmp 114) (.const (.int .i64 2)))), []⟩, ⟨(some 116), none, (.r (.mv (.tmp 15))), []⟩, ⟨(some 117), none, (.r (.bin .add (.tmp 116) (.const (.int .u32 1)))), []⟩, ⟨(some 118), none, (.r (.ixs (.const (.string ⟨#[48, 48, 48, 49, 48, 50, 48, 51, 48, 52, 48, 53, 48, 54, 48, 55, 48, 56, 48, 57, 49, 48, 49, 49, 49, 50, 49, 51, 49, 52, 49, 53, 49, 54, 49, 55, 49, 56, 49, 57, 50, 48, 50, 49, 50, 50, 50, 51, 50, 52, 50, 53, 50, 54, 50, 55, 50, 56, 50, 57, 51, 48, 51, 49, 51, 50, 51, 51, 51, 52, 51, 53, 51, 54, 51, 55, 51, 56, 51, 57, 52, 48, 52, 49, 52, 50, 52, 51, 52, 52, 52, 53, 52, 54, 52, 55, 52, 56, 52, 57, 53, 48, 53, 49, 53, 50, 53, 51, 53, 52, 53, 53, 53, 54, 53, 55, 53, 56, 53, 57, 54, 48, 54, 49, 54, 50, 54, 51, 54, 52, 54, 53, 54, 54, 54, 55, 54, 56, 54, 57, 55, 48, 55, 49, 55, 50, 55, 51, 55, 52, 55, 53, 55, 54, 55, 55, 55, 56, 55, 57, 56, 48, 56, 49, 56, 50, 56, 51, 56, 52, 56, 53, 56, 54, 56, 55, 56, 56, 56, 57, 57, 48, 57, 49, 57, 50, 57, 51, 57, 52, 57, 53, 57, 54, 57, 55, 57, 56, 57, 57]⟩)) (.tmp 117))), []⟩, ⟨(some 119), none, (.r (.mv (.tmp 15))), []⟩, ⟨(some 120), none, (.r (.ixs (.const (.string ⟨#[48, 48, 48, 49, 48, 50, 48, 51, 48, 52, 48, 53, 48, 54, 48, 55, 48, 56, 48, 57, 49, 48, 49, 49, 49, 50, 49, 51, 49, 52, 49, 53, 49, 54, 49, 55, 49, 56, 49, 57, 50, 48, 50, 49, 50, 50, 50, 51, 50, 52, 50, 53, 50, 54, 50, 55, 50, 56, 50, 57, 51, 48, 51, 49, 51, 50, 51, 51, 51, 52, 51, 53, 51, 54, 51, 55, 51, 56, 51, 57, 52, 48, 52, 49, 52, 50, 52, 51, 52, 52, 52, 53, 52, 54, 52, 55, 52, 56, 52, 57, 53, 48, 53, 49, 53, 50, 53, 51, 53, 52, 53, 53, 53, 54, 53, 55, 53, 56, 53, 57, 54, 48, 54, 49, 54, 50, 54, 51, 54, 52, 54, 53, 54, 54, 54, 55, 54, 56, 54, 57, 55, 48, 55, 49, 55, 50, 55, 51, 55, 52, 55, 53, 55, 54, 55, 55, 55, 56, 55, 57, 56, 48, 56, 49, 56, 50, 56, 51, 56, 52, 56, 53, 56, 54, 56, 55, 56, 56, 56, 57, 57, 48, 57, 49, 57, 50, 57, 51, 57, 52, 57, 53, 57, 54, 57, 55, 57, 56, 57, 57]⟩)) (.tmp 119))), []⟩, ⟨(some 121), none, (.r (.ia 1 (.tmp 110) (.tmp 112))), []⟩, ⟨none, none, (.e (.st 1 (.tmp 121) (.tmp 118))), []⟩, ⟨(some 122), none, (.r (.ia 1 (.tmp 113) (.tmp 115))), []⟩, ⟨none, none, (.e (.st 1 (.tmp 122) (.tmp 120))), []⟩])
  (.seq (.run [⟨(some 123), none, (.r (.mv (.tmp 0))), []⟩, ⟨(some 124), none, (.r (.mv (.tmp 4))), []⟩, ⟨(some 125), none, (.r (.bin .sub (.tmp 124) (.const (.int .i64 3)))), []⟩, ⟨(some 126), none, (.r (.mv (.tmp 0))), []⟩, ⟨(some 127), none, (.r (.mv (.tmp 4))), []⟩, ⟨(some 128), none, (.r (.bin .sub (.tmp 127) (.const (.int .i64 4)))), []⟩, ⟨(some 129), none, (.r (.mv (.tmp 14))), []⟩, ⟨(some 130), none, (.r (.bin .add (.tmp 129) (.const (.int .u32 1)))), []⟩, ⟨(some 131), none, (.r (.ixs (.const (.string ⟨#[48, 48, 48, 49, 48, 50, 48, 51, 48, 52, 48, 53, 48, 54, 48, 55, 48, 56, 48, 57, 49, 48, 49, 49, 49, 50, 49, 51, 49, 52, 49, 53, 49, 54, 49, 55, 49, 56, 49, 57, 50, 48, 50, 49, 50, 50, 50, 51, 50, 52, 50, 53, 50, 54, 50, 55, 50, 56, 50, 57, 51, 48, 51, 49, 51, 50, 51, 51, 51, 52, 51, 53, 51, 54, 51, 55, 51, 56, 51, 57, 52, 48, 52, 49, 52, 50, 52, 51, 52, 52, 52, 53, 52, 54, 52, 55, 52, 56, 52, 57, 53, 48, 53, 49, 53, 50, 53, 51, 53, 52, 53, 53, 53, 54, 53, 55, 53, 56, 53, 57, 54, 48, 54, 49, 54, 50, 54, 51, 54, 52, 54, 53, 54, 54, 54, 55, 54, 56, 54, 57, 55, 48, 55, 49, 55, 50, 55, 51, 55, 52, 55, 53, 55, 54, 55, 55, 55, 56, 55, 57, 56, 48, 56, 49, 56, 50, 56, 51, 56, 52, 56, 53, 56, 54, 56, 55, 56, 56, 56, 57, 57, 48, 57, 49, 57, 50, 57, 51, 57, 52, 57, 53, 57, 54, 57, 55, 57, 56, 57, 57]⟩)) (.tmp 130))), []⟩, ⟨(some 132), none, (.r (.mv (.tmp 14))), []⟩, ⟨(some 133), none, (.r (.ixs (.const (.string ⟨#[48, 48, 48, 49, 48, 50, 48, 51, 48, 52, 48, 53, 48, 54, 48, 55, 48, 56, 48, 57, 49, 48, 49, 49, 49, 50, 49, 51, 49, 52, 49, 53, 49, 54, 49, 55, 49, 56, 49, 57, 50, 48, 50, 49, 50, 50, 50, 51, 50, 52, 50, 53, 50, 54, 50, 55, 50, 56, 50, 57, 51, 48, 51, 49, 51, 50, 51, 51, 51, 52, 51, 53, 51, 54, 51, 55, 51, 56, 51, 57, 52, 48, 52, 49, 52, 50, 52, 51, 52, 52, 52, 53, 52, 54, 52, 55, 52, 56, 52, 57, 53, 48, 53, 49, 53, 50, 53, 51, 53, 52, 53, 53, 53, 54, 53, 55, 53, 56, 53, 57, 54, 48, 54, 49, 54, 50, 54, 51, 54, 52, 54, 53, 54, 54, 54, 55, 54, 56, 54, 57, 55, 48, 55, 49, 55, 50, 55, 51, 55, 52, 55, 53, 55, 54, 55, 55, 55, 56, 55, 57, 56, 48, 56, 49, 56, 50, 56, 51, 56, 52, 56, 53, 56, 54, 56, 55, 56, 56, 56, 57, 57, 48, 57, 49, 57, 50, 57, 51, 57, 52, 57, 53, 57, 54, 57, 55, 57, 56, 57, 57]⟩)) (.tmp 132))), []⟩, ⟨(some 134), none, (.r (.ia 1 (.tmp 123) (.tmp 125))), []⟩, ⟨none, none, (.e (.st 1 (.tmp 134) (.tmp 131))), []⟩, ⟨(some 135), none, (.r (.ia 1 (.tmp 126) (.tmp 128))), []⟩, ⟨none, none, (.e (.st 1 (.tmp 135) (.tmp 133))), []⟩])
  (.run [⟨(some 136), none, (.r (.mv (.tmp 4))), []⟩, ⟨(some 137), none, (.r (.bin .sub (.tmp 136) (.const (.int .i64 4)))), []⟩, ⟨(some 4), none, (.a (.tmp 137)), []⟩]))))))
  .skip))
  rc42_3))
def rc42 : RC := (.seq (.run [⟨(some 17), none, (.r (.mv (.tmp 0))), []⟩, ⟨(some 18), none, (.r (.lenl (.tmp 17))), []⟩, ⟨(some 4), none, (.a (.tmp 18)), []⟩])
  (.seq (.block 0 (.loop rc42_1))
  rc42_4))
def ce42 : List (Nat × List Nat × List Nat) := [(7, [0, 1, 2, 3, 4, 5, 6, 7, 8, 9, 10, 11, 12, 13, 14], [0, 0, 2, 0, 0, 16, 0, 64, 192, 0, 512, 455, 2503, 8191, 16383]), (8, [0, 1, 2, 3, 4, 5, 6, 7, 8, 9, 10, 11, 12, 13, 14], [0, 0, 2, 0, 0, 16, 0, 64, 192, 0, 512, 455, 2503, 8191, 16383]), (9, [0, 1, 2, 3, 4, 5, 6, 7, 8, 9, 10, 11, 12, 13, 14], [0, 0, 2, 0, 0, 16, 0, 64, 192, 0, 512, 455, 2503, 8191, 16383]), (10, [0, 1, 2, 3, 4, 5, 6, 7, 8, 9, 10, 11, 12, 13, 14], [0, 0, 2, 0, 0, 16, 0, 64, 192, 0, 512, 455, 2503, 8191, 16383]), (17, [0, 1, 2, 3, 4, 5, 6, 7, 8, 9, 10, 11, 12, 13, 14], [0, 0, 2, 0, 0, 16, 0, 64, 192, 0, 512, 455, 2503, 8191, 16383]), (18, [0, 1, 2, 3, 4, 5, 6, 7, 8, 9, 10, 11, 12, 13, 14], [0, 0, 2, 0, 0, 16, 0, 64, 192, 0, 512, 455, 2503, 8191, 16383]), (23, [0, 1, 2, 3, 4, 5, 6, 7, 8, 9, 10, 11, 12, 13, 14], [0, 0, 2, 0, 0, 16, 0, 64, 192, 0, 512, 455, 2503, 8191, 16383])]
def ro42 : List RO := []
theorem ok42 : okFn Tryd.prog 42 167 ce42 = some (rc42, ro42) := by kernel_rfl
/-! internal/strconv.formatBits -/
def rc43_0 : RC := (.block 1 (.seq (.run [⟨(some 47), none, (.r (.mv (.tmp 13))), []⟩, ⟨(some 48), none, (.r (.bin .sub (.tmp 47) (.const (.int .i64 1)))), []⟩, ⟨(some 13), none, (.a (.tmp 48)), []⟩])
  (.seq (.run [⟨(some 49), none, (.r (.mv (.tmp 13))), []⟩, ⟨(some 50), none, (.r (.mv (.tmp 1))), []⟩, ⟨(some 51), none, (.r (.mv (.tmp 16))), []⟩, ⟨(some 52), none, (.r (.bin .and (.tmp 50) (.tmp 51))), []⟩, ⟨(some 53), none, (.r (.ixs (.const (.string ⟨#[48, 49, 50, 51, 52, 53, 54, 55, 56, 57, 97, 98, 99, 100, 101, 102, 103, 104, 105, 106, 107, 108, 109, 110, 111, 112, 113, 114, 115, 116, 117, 118, 119, 120, 121, 122]⟩)) (.tmp 52))), []⟩, ⟨(some 54), none, (.r (.iaa 65 1 (.tmp 12) (.tmp 49))), []⟩, ⟨none, none, (.e (.st 1 (.tmp 54) (.tmp 53))), []⟩])
  (.run [⟨(some 55), none, (.r (.mv (.tmp 1))), []⟩, ⟨(some 56), none, (.r (.mv (.tmp 14))), []⟩, ⟨(some 57), none, (.r (.bin .shr (.tmp 55) (.tmp 56))), []⟩, ⟨(some 1), none, (.a (.tmp 57)), []⟩]))))
def rc43_1 : RC := (.seq (.seq (.run [⟨(some 44), none, (.r (.mv (.tmp 1))), []⟩, ⟨(some 45), none, (.r (.mv (.tmp 15))), []⟩, ⟨(some 46), none, (.r (.bin .geq (.tmp 44) (.tmp 45))), []⟩])
  (.cond (.tmp 46)
  .skip
  (.exit 0)))
  rc43_0)
def rc43_2 : RC := (.seq (.run [⟨(some 58), none, (.r (.mv (.tmp 13))), []⟩, ⟨(some 59), none, (.r (.bin .sub (.tmp 58) (.const (.int .i64 1)))), []⟩, ⟨(some 13), none, (.a (.tmp 59)), []⟩])
  (.run [⟨(some 60), none, (.r (.mv (.tmp 13))), []⟩, ⟨(some 61), none, (.r (.mv (.tmp 1))), []⟩, ⟨(some 62), none, (.r (.ixs (.const (.string ⟨#[48, 49, 50, 51, 52, 53, 54, 55, 56, 57, 97, 98, 99, 100, 101, 102, 103, 104, 105, 106, 107, 108, 109, 110, 111, 112, 113, 114, 115, 116, 117, 118, 119, 120, 121, 122]⟩)) (.tmp 61))), []⟩, ⟨(some 63), none, (.r (.iaa 65 1 (.tmp 12) (.tmp 60))), []⟩, ⟨none, none, (.e (.st 1 (.tmp 63) (.tmp 62))), []⟩]))
def rc43_3 : RC := (.block 3 (.seq (.run [⟨(some 69), none, (.r (.mv (.tmp 13))), []⟩, ⟨(some 70), none, (.r (.bin .sub (.tmp 69) (.const (.int .i64 1)))), []⟩, ⟨(some 13), none, (.a (.tmp 70)), []⟩])
  (.seq (.run [⟨(some 71), none, (.r (.mv (.tmp 1))), []⟩, ⟨(some 72), none, (.r (.mv (.tmp 17))), []⟩, ⟨(some 73), none, (.r (.bin .quo (.tmp 71) (.tmp 72))), []⟩, ⟨(some 18), none, (.a (.tmp 73)), []⟩])
  (.seq (.run [⟨(some 74), none, (.r (.mv (.tmp 13))), []⟩, ⟨(some 75), none, (.r (.mv (.tmp 1))), []⟩, ⟨(some 76), none, (.r (.mv (.tmp 18))), []⟩, ⟨(some 77), none, (.r (.mv (.tmp 17))), []⟩, ⟨(some 78), none, (.r (.bin .mul (.tmp 76) (.tmp 77))), []⟩, ⟨(some 79), none, (.r (.bin .sub (.tmp 75) (.tmp 78))), []⟩, ⟨(some 80), none, (.r (.ixs (.const (.string ⟨#[48, 49, 50, 51, 52, 53, 54, 55, 56, 57, 97, 98, 99, 100, 101, 102, 103, 104, 105, 106, 107, 108, 109, 110, 111, 112, 113, 114, 115, 116, 117, 118, 119, 120, 121, 122]⟩)) (.tmp 79))), []⟩, ⟨(some 81), none, (.r (.iaa 65 1 (.tmp 12) (.tmp 74))), []⟩, ⟨none, none, (.e (.st 1 (.tmp 81) (.tmp 80))), []⟩])
  (.run [⟨(some 82), none, (.r (.mv (.tmp 18))), []⟩, ⟨(some 1), none, (.a (.tmp 82)), []⟩])))))
def rc43_4 : RC := (.seq (.seq (.run [⟨(some 66), none, (.r (.mv (.tmp 1))), []⟩, ⟨(some 67), none, (.r (.mv (.tmp 17))), []⟩, ⟨(some 68), none, (.r (.bin .geq (.tmp 66) (.tmp 67))), []⟩])
  (.cond (.tmp 68)
  .skip
  (.exit 2)))
  rc43_3)
def rc43_5 : RC := (.seq (.run [⟨(some 83), none, (.r (.mv (.tmp 13))), []⟩, ⟨(some 84), none, (.r (.bin .sub (.tmp 83) (.const (.int .i64 1)))), []⟩, ⟨(some 13), none, (.a (.tmp 84)), []⟩])
  (.run [⟨(some 85), none, (.r (.mv (.tmp 13))), []⟩, ⟨(some 86), none, (.r (.mv (.tmp 1))), []⟩, ⟨(some 87), none, (.r (.ixs (.const (.string ⟨#[48, 49, 50, 51, 52, 53, 54, 55, 56, 57, 97, 98, 99, 100, 101, 102, 103, 104, 105, 106, 107, 108, 109, 110, 111, 112, 113, 114, 115, 116, 117, 118, 119, 120, 121, 122]⟩)) (.tmp 86))), []⟩, ⟨(some 88), none, (.r (.iaa 65 1 (.tmp 12) (.tmp 85))), []⟩, ⟨none, none, (.e (.st 1 (.tmp 88) (.tmp 87))), []⟩]))
def rc43_6 : RC := (.seq (.run [⟨(some 99), none, (.r (.mv (.tmp 13))), []⟩, ⟨(some 100), none, (.r (.sla 65 1 (.tmp 12) (some (.tmp 99)) none)), []⟩, ⟨(some 101), none, (.r (.b2s (.tmp 100))), []⟩, ⟨(some 11), none, (.a (.tmp 101)), []⟩])
  .ret)
def rc43_7 : RC := (.seq (.seq (.run [⟨(some 94), none, (.r (.mv (.tmp 4))), []⟩])
  (.cond (.tmp 94)
  (.seq (.run [⟨(some 95), none, (.r (.mv (.tmp 0))), []⟩, ⟨(some 96), none, (.r (.mv (.tmp 13))), []⟩, ⟨(some 97), none, (.r (.sla 65 1 (.tmp 12) (some (.tmp 96)) none)), []⟩, ⟨(some 98), none, (.e (.app 5 1 1 (.tmp 95) (.tmp 97))), []⟩, ⟨(some 10), none, (.a (.tmp 98)), []⟩])
  .ret)
  .skip))
  rc43_6)
def rc43_8 : RC := (.seq (.seq (.run [⟨(some 89), none, (.r (.mv (.tmp 3))), []⟩])
  (.cond (.tmp 89)
  (.seq (.run [⟨(some 90), none, (.r (.mv (.tmp 13))), []⟩, ⟨(some 91), none, (.r (.bin .sub (.tmp 90) (.const (.int .i64 1)))), []⟩, ⟨(some 13), none, (.a (.tmp 91)), []⟩])
  (.run [⟨(some 92), none, (.r (.mv (.tmp 13))), []⟩, ⟨(some 93), none, (.r (.iaa 65 1 (.tmp 12) (.tmp 92))), []⟩, ⟨none, none, (.e (.st 1 (.tmp 93) (.const (.int .u8 45)))), []⟩]))
  .skip))
  rc43_7)
def rc43_9 : RC := (.seq (.seq (.run [⟨(some 33), none, (.r (.mv (.tmp 2))), []⟩, ⟨(some 34), none, (.c (.fn 58 [(.tmp 33)])), []⟩])
  (.cond (.tmp 34)
  (.seq (.run [⟨(some 35), none, (.r (.mv (.tmp 2))), []⟩, ⟨(some 36), none, (.r (.cvi .u64 (.tmp 35))), []⟩, ⟨(some 37), none, (.c (.fn 59 [(.tmp 36)])), []⟩, ⟨(some 38), none, (.r (.cvi .u64 (.tmp 37))), []⟩, ⟨(some 14), none, (.a (.tmp 38)), []⟩])
  (.seq (.run [⟨(some 39), none, (.r (.mv (.tmp 2))), []⟩, ⟨(some 40), none, (.r (.cvi .u64 (.tmp 39))), []⟩, ⟨(some 15), none, (.a (.tmp 40)), []⟩])
  (.seq (.run [⟨(some 41), none, (.r (.mv (.tmp 2))), []⟩, ⟨(some 42), none, (.r (.cvi .u64 (.tmp 41))), []⟩, ⟨(some 43), none, (.r (.bin .sub (.tmp 42) (.const (.int .u64 1)))), []⟩, ⟨(some 16), none, (.a (.tmp 43)), []⟩])
  (.seq (.block 0 (.loop rc43_1))
  rc43_2))))
  (.seq (.run [⟨(some 64), none, (.r (.mv (.tmp 2))), []⟩, ⟨(some 65), none, (.r (.cvi .u64 (.tmp 64))), []⟩, ⟨(some 17), none, (.a (.tmp 65)), []⟩])
  (.seq (.block 2 (.loop rc43_4))
  rc43_5))))
  rc43_8)
def rc43_10 : RC := (.seq (.run [⟨(some 12), none, (.e (.al [(.int .u8 0), (.int .u8 0), (.int .u8 0), (.int .u8 0), (.int .u8 0), (.int .u8 0), (.int .u8 0), (.int .u8 0), (.int .u8 0), (.int .u8 0), (.int .u8 0), (.int .u8 0), (.int .u8 0), (.int .u8 0), (.int .u8 0), (.int .u8 0), (.int .u8 0), (.int .u8 0), (.int .u8 0), (.int .u8 0), (.int .u8 0), (.int .u8 0), (.int .u8 0), (.int .u8 0), (.int .u8 0), (.int .u8 0), (.int .u8 0), (.int .u8 0), (.int .u8 0), (.int .u8 0), (.int .u8 0), (.int .u8 0), (.int .u8 0), (.int .u8 0), (.int .u8 0), (.int .u8 0), (.int .u8 0), (.int .u8 0), (.int .u8 0), (.int .u8 0), (.int .u8 0), (.int .u8 0), (.int .u8 0), (.int .u8 0), (.int .u8 0), (.int .u8 0), (.int .u8 0), (.int .u8 0), (.int .u8 0), (.int .u8 0), (.int .u8 0), (.int .u8 0), (.int .u8 0), (.int .u8 0), (.int .u8 0), (.int .u8 0), (.int .u8 0), (.int .u8 0), (.int .u8 0), (.int .u8 0), (.int .u8 0), (.int .u8 0), (.int .u8 0), (.int .u8 0), (.int .u8 0)] 91)), []⟩])
  (.seq (.run [⟨(some 13), none, (.a (.const (.int .i64 65))), []⟩])
  (.seq (.seq (.run [⟨(some 30), none, (.r (.mv (.tmp 3))), []⟩])
  (.cond (.tmp 30)
  (.run [⟨(some 31), none, (.r (.mv (.tmp 1))), []⟩, ⟨(some 32), none, (.r (.neg (.tmp 31))), []⟩, ⟨(some 1), none, (.a (.tmp 32)), []⟩])
  .skip))
  rc43_9)))
def rc43 : RC := (.seq (.run [⟨(some 10), none, (.a (.const (.slice none 0 0))), []⟩, ⟨(some 11), none, (.a (.const (.string ⟨#[]⟩))), []⟩])
  (.seq (.seq (.run [⟨(some 19), none, (.r (.mv (.tmp 2))), []⟩, ⟨(some 20), none, (.r (.bin .lss (.tmp 19) (.const (.int .i64 2)))), []⟩, ⟨(some 21), none, (.r (.mv (.tmp 20))), []⟩, ⟨(some 22), (some (21, false)), (.r (.mv (.tmp 2))), []⟩, ⟨(some 23), (some (21, false)), (.r (.bin .eql (.tmp 22) (.const (.int .i64 10)))), []⟩, ⟨(some 24), none, (.r (.pick (.tmp 21) (.const (.bool true)) (.tmp 23))), []⟩, ⟨(some 25), none, (.r (.mv (.tmp 24))), []⟩, ⟨(some 26), (some (25, false)), (.r (.mv (.tmp 2))), []⟩, ⟨(some 27), (some (25, false)), (.r (.bin .gtr (.tmp 26) (.const (.int .i64 36)))), []⟩, ⟨(some 28), none, (.r (.pick (.tmp 25) (.const (.bool true)) (.tmp 27))), []⟩])
  (.cond (.tmp 28)
  (.run [⟨(some 29), none, (.r (.mki 9 (.const (.string ⟨#[115, 116, 114, 99, 111, 110, 118, 58, 32, 105, 108, 108, 101, 103, 97, 108, 32, 65, 112, 112, 101, 110, 100, 73, 110, 116, 47, 70, 111, 114, 109, 97, 116, 73, 110, 116, 32, 98, 97, 115, 101]⟩)))), []⟩, ⟨none, none, .bad, []⟩])
  .skip))
  rc43_10))
def ce43 : List (Nat × List Nat × List Nat) := []
def ro43 : List RO := [(.mv (.tmp 10)), (.mv (.tmp 11))]
theorem ok43 : okFn Tryd.prog 43 102 ce43 = some (rc43, ro43) := by kernel_rfl
/-! (*strings.Builder).copyCheck -/

def rc44 : RC := (.seq (.run [⟨(some 2), none, (.r (.mv (.tmp 0))), []⟩, ⟨(some 3), none, (.r (.nck (.tmp 2))), []⟩, ⟨(some 4), none, (.r (.fa 0 (.tmp 3))), []⟩, ⟨(some 5), none, (.r (.ld (.tmp 4))), []⟩, ⟨(some 6), none, (.r (.eq false .ptr (.tmp 5) (.const (.pointer none)))), []⟩])
  (.cond (.tmp 6)
  (.run [⟨(some 7), none, (.r (.mv (.tmp 0))), []⟩, ⟨(some 8), none, (.r (.mv (.tmp 0))), []⟩, ⟨(some 9), none, (.r (.cvp (.tmp 8))), []⟩, ⟨(some 10), none, (.c (.fn 60 [(.tmp 9)])), []⟩, ⟨(some 11), none, (.r (.cvu 57 2 (.tmp 10))), []⟩, ⟨(some 12), none, (.r (.nck (.tmp 7))), []⟩, ⟨(some 13), none, (.r (.fa 0 (.tmp 12))), []⟩, ⟨none, none, (.e (.st 1 (.tmp 13) (.tmp 11))), []⟩])
  (.seq (.run [⟨(some 14), none, (.r (.mv (.tmp 0))), []⟩, ⟨(some 15), none, (.r (.nck (.tmp 14))), []⟩, ⟨(some 16), none, (.r (.fa 0 (.tmp 15))), []⟩, ⟨(some 17), none, (.r (.ld (.tmp 16))), []⟩, ⟨(some 18), none, (.r (.mv (.tmp 0))), []⟩, ⟨(some 19), none, (.r (.eq true .ptr (.tmp 17) (.tmp 18))), []⟩])
  (.cond (.tmp 19)
  .stop
  .skip))))
def ce44 : List (Nat × List Nat × List Nat) := []
def ro44 : List RO := []
theorem ok44 : okFn Tryd.prog 44 20 ce44 = some (rc44, ro44) := by kernel_rfl
/-! (*strings.Builder).grow -/

def rc45 : RC := (.seq (.run [⟨(some 5), none, (.r (.mv (.tmp 0))), []⟩, ⟨(some 6), none, (.r (.nck (.tmp 5))), []⟩, ⟨(some 7), none, (.r (.fa 1 (.tmp 6))), []⟩, ⟨(some 8), none, (.r (.ld (.tmp 7))), []⟩, ⟨(some 9), none, (.r (.capn (.tmp 8))), []⟩, ⟨(some 10), none, (.r (.bin .mul (.const (.int .i64 2)) (.tmp 9))), []⟩, ⟨(some 11), none, (.r (.mv (.tmp 1))), []⟩, ⟨(some 12), none, (.r (.bin .add (.tmp 10) (.tmp 11))), []⟩, ⟨(some 14), none, (.r (.mv (.tmp 0))), []⟩, ⟨(some 15), none, (.r (.nck (.tmp 14))), []⟩, ⟨(some 16), none, (.r (.fa 1 (.tmp 15))), []⟩, ⟨(some 17), none, (.r (.ld (.tmp 16))), []⟩, ⟨(some 18), none, (.r (.lenl (.tmp 17))), []⟩, ⟨(some 13), none, (.c (.fn 61 [(.tmp 12)])), [(17, none, .ld (.tmp 16))]⟩, ⟨(some 19), none, (.r (.sl 1 (.tmp 13) none (some (.tmp 18)))), []⟩, ⟨(some 4), none, (.a (.tmp 19)), []⟩])
  (.seq (.run [⟨(some 20), none, (.r (.mv (.tmp 4))), []⟩, ⟨(some 21), none, (.r (.mv (.tmp 0))), []⟩, ⟨(some 22), none, (.r (.nck (.tmp 21))), []⟩, ⟨(some 23), none, (.r (.fa 1 (.tmp 22))), []⟩, ⟨(some 24), none, (.r (.ld (.tmp 23))), []⟩, ⟨(some 25), none, (.e (.cpy 1 (.tmp 20) (.tmp 24))), []⟩])
  (.run [⟨(some 26), none, (.r (.mv (.tmp 0))), []⟩, ⟨(some 27), none, (.r (.mv (.tmp 4))), []⟩, ⟨(some 28), none, (.r (.nck (.tmp 26))), []⟩, ⟨(some 29), none, (.r (.fa 1 (.tmp 28))), []⟩, ⟨none, none, (.e (.st 1 (.tmp 29) (.tmp 27))), []⟩])))
def ce45 : List (Nat × List Nat × List Nat) := [(0, [0, 1, 2, 3, 4, 5, 6, 7, 9, 10, 11, 12, 13, 8, 14, 15], [0, 1, 3, 7, 15, 31, 0, 127, 255, 0, 512, 1536, 3584, 7680, 16383, 32767])]
def ro45 : List RO := []
theorem ok45 : okFn Tryd.prog 45 30 ce45 = some (rc45, ro45) := by kernel_rfl
/-! internal/stringslite.Index -/
def rc46_0 : RC := (.seq (.run [⟨(some 4), none, (.a (.const (.int .i64 (-1)))), []⟩])
  .ret)
def rc46_1 : RC := (.seq (.run [⟨(some 140), none, (.r (.mv (.tmp 8))), []⟩, ⟨(some 141), none, (.r (.mv (.tmp 13))), []⟩, ⟨(some 142), none, (.r (.bin .add (.tmp 140) (.tmp 141))), []⟩, ⟨(some 4), none, (.a (.tmp 142)), []⟩])
  .ret)
def rc46_2 : RC := (.seq (.run [⟨(some 95), none, (.r (.mv (.tmp 8))), []⟩, ⟨(some 96), none, (.r (.bin .add (.tmp 95) (.const (.int .i64 1)))), []⟩, ⟨(some 8), none, (.a (.tmp 96)), []⟩])
  (.seq (.run [⟨(some 97), none, (.r (.mv (.tmp 10))), []⟩, ⟨(some 98), none, (.r (.bin .add (.tmp 97) (.const (.int .i64 1)))), []⟩, ⟨(some 10), none, (.a (.tmp 98)), []⟩])
  (.seq (.run [⟨(some 99), none, (.r (.mv (.tmp 5))), []⟩, ⟨(some 100), none, (.r (.ld (.global 1))), []⟩, ⟨(some 101), none, (.r (.bin .leq (.tmp 99) (.tmp 100))), []⟩, ⟨(some 102), none, (.r (.mv (.tmp 101))), []⟩, ⟨(some 103), (some (102, true)), (.r (.mv (.tmp 10))), []⟩, ⟨(some 104), (some (102, true)), (.r (.mv (.tmp 8))), []⟩, ⟨(some 105), (some (102, true)), (.c (.fn 64 [(.tmp 104)])), []⟩, ⟨(some 106), (some (102, true)), (.r (.bin .gtr (.tmp 103) (.tmp 105))), []⟩, ⟨(some 107), none, (.r (.pick (.tmp 102) (.tmp 106) (.const (.bool false)))), []⟩])
  (.cond (.tmp 107)
  (.seq (.run [⟨(some 108), none, (.r (.mv (.tmp 0))), []⟩, ⟨(some 109), none, (.r (.mv (.tmp 8))), []⟩, ⟨(some 110), none, (.r (.sls (.tmp 108) (some (.tmp 109)) none)), []⟩, ⟨(some 111), none, (.r (.mv (.tmp 1))), []⟩, ⟨(some 112), none, (.c (.fn 63 [(.tmp 110), (.tmp 111)])), []⟩, ⟨(some 12), none, (.a (.tmp 112)), []⟩])
  (.seq (.seq (.run [⟨(some 113), none, (.r (.mv (.tmp 12))), []⟩, ⟨(some 114), none, (.r (.bin .geq (.tmp 113) (.const (.int .i64 0)))), []⟩])
  (.cond (.tmp 114)
  (.seq (.run [⟨(some 115), none, (.r (.mv (.tmp 12))), []⟩, ⟨(some 116), none, (.r (.mv (.tmp 8))), []⟩, ⟨(some 117), none, (.r (.bin .add (.tmp 115) (.tmp 116))), []⟩, ⟨(some 4), none, (.a (.tmp 117)), []⟩])
  .ret)
  .skip))
  rc46_0))
  (.seq (.run [⟨(some 118), none, (.r (.mv (.tmp 5))), []⟩, ⟨(some 119), none, (.r (.ld (.global 1))), []⟩, ⟨(some 120), none, (.r (.bin .gtr (.tmp 118) (.tmp 119))), []⟩, ⟨(some 121), none, (.r (.mv (.tmp 120))), []⟩, ⟨(some 122), (some (121, true)), (.r (.mv (.tmp 10))), []⟩, ⟨(some 123), (some (121, true)), (.r (.mv (.tmp 8))), []⟩, ⟨(some 124), (some (121, true)), (.r (.bin .shr (.tmp 123) (.const (.int .u64 4)))), []⟩, ⟨(some 125), (some (121, true)), (.r (.bin .add (.const (.int .i64 4)) (.tmp 124))), []⟩, ⟨(some 126), (some (121, true)), (.r (.bin .geq (.tmp 122) (.tmp 125))), []⟩, ⟨(some 127), none, (.r (.pick (.tmp 121) (.tmp 126) (.const (.bool false)))), []⟩, ⟨(some 128), none, (.r (.mv (.tmp 127))), []⟩, ⟨(some 129), (some (128, true)), (.r (.mv (.tmp 8))), []⟩, ⟨(some 130), (some (128, true)), (.r (.mv (.tmp 9))), []⟩, ⟨(some 131), (some (128, true)), (.r (.bin .lss (.tmp 129) (.tmp 130))), []⟩, ⟨(some 132), none, (.r (.pick (.tmp 128) (.tmp 131) (.const (.bool false)))), []⟩])
  (.cond (.tmp 132)
  (.seq (.run [⟨(some 133), none, (.r (.mv (.tmp 0))), []⟩, ⟨(some 134), none, (.r (.mv (.tmp 8))), []⟩, ⟨(some 135), none, (.r (.sls (.tmp 133) (some (.tmp 134)) none)), []⟩, ⟨(some 136), none, (.r (.mv (.tmp 1))), []⟩, ⟨(some 137), none, (.c (.fn 65 [(.tmp 135), (.tmp 136)])), []⟩, ⟨(some 13), none, (.a (.tmp 137)), []⟩])
  (.seq (.seq (.run [⟨(some 138), none, (.r (.mv (.tmp 13))), []⟩, ⟨(some 139), none, (.r (.bin .lss (.tmp 138) (.const (.int .i64 0)))), []⟩])
  (.cond (.tmp 139)
  (.seq (.run [⟨(some 4), none, (.a (.const (.int .i64 (-1)))), []⟩])
  .ret)
  .skip))
  rc46_1))
  .skip))))))
def rc46_3 : RC := (.seq (.seq (.run [⟨(some 78), none, (.r (.mv (.tmp 0))), []⟩, ⟨(some 79), none, (.r (.mv (.tmp 8))), []⟩, ⟨(some 80), none, (.r (.bin .add (.tmp 79) (.const (.int .i64 1)))), []⟩, ⟨(some 81), none, (.r (.ixs (.tmp 78) (.tmp 80))), []⟩, ⟨(some 82), none, (.r (.mv (.tmp 7))), []⟩, ⟨(some 83), none, (.r (.bin .eql (.tmp 81) (.tmp 82))), []⟩, ⟨(some 84), none, (.r (.mv (.tmp 83))), []⟩, ⟨(some 85), (some (84, true)), (.r (.mv (.tmp 0))), []⟩, ⟨(some 86), (some (84, true)), (.r (.mv (.tmp 8))), []⟩, ⟨(some 87), (some (84, true)), (.r (.mv (.tmp 8))), []⟩, ⟨(some 88), (some (84, true)), (.r (.mv (.tmp 5))), []⟩, ⟨(some 89), (some (84, true)), (.r (.bin .add (.tmp 87) (.tmp 88))), []⟩, ⟨(some 90), (some (84, true)), (.r (.sls (.tmp 85) (some (.tmp 86)) (some (.tmp 89)))), []⟩, ⟨(some 91), (some (84, true)), (.r (.mv (.tmp 1))), []⟩, ⟨(some 92), (some (84, true)), (.r (.bin .eql (.tmp 90) (.tmp 91))), []⟩, ⟨(some 93), none, (.r (.pick (.tmp 84) (.tmp 92) (.const (.bool false)))), []⟩])
  (.cond (.tmp 93)
  (.seq (.run [⟨(some 94), none, (.r (.mv (.tmp 8))), []⟩, ⟨(some 4), none, (.a (.tmp 94)), []⟩])
  .ret)
  .skip))
  rc46_2)
def rc46_4 : RC := (.block 2 (.seq (.seq (.run [⟨(some 60), none, (.r (.mv (.tmp 0))), []⟩, ⟨(some 61), none, (.r (.mv (.tmp 8))), []⟩, ⟨(some 62), none, (.r (.ixs (.tmp 60) (.tmp 61))), []⟩, ⟨(some 63), none, (.r (.mv (.tmp 6))), []⟩, ⟨(some 64), none, (.r (.bin .neq (.tmp 62) (.tmp 63))), []⟩])
  (.cond (.tmp 64)
  (.seq (.run [⟨(some 65), none, (.r (.mv (.tmp 0))), []⟩, ⟨(some 66), none, (.r (.mv (.tmp 8))), []⟩, ⟨(some 67), none, (.r (.bin .add (.tmp 66) (.const (.int .i64 1)))), []⟩, ⟨(some 68), none, (.r (.mv (.tmp 9))), []⟩, ⟨(some 69), none, (.r (.sls (.tmp 65) (some (.tmp 67)) (some (.tmp 68)))), []⟩, ⟨(some 70), none, (.r (.mv (.tmp 6))), []⟩, ⟨(some 71), none, (.c (.fn 62 [(.tmp 69), (.tmp 70)])), []⟩, ⟨(some 11), none, (.a (.tmp 71)), []⟩])
  (.seq (.seq (.run [⟨(some 72), none, (.r (.mv (.tmp 11))), []⟩, ⟨(some 73), none, (.r (.bin .lss (.tmp 72) (.const (.int .i64 0)))), []⟩])
  (.cond (.tmp 73)
  (.seq (.run [⟨(some 4), none, (.a (.const (.int .i64 (-1)))), []⟩])
  .ret)
  .skip))
  (.run [⟨(some 74), none, (.r (.mv (.tmp 8))), []⟩, ⟨(some 75), none, (.r (.mv (.tmp 11))), []⟩, ⟨(some 76), none, (.r (.bin .add (.tmp 75) (.const (.int .i64 1)))), []⟩, ⟨(some 77), none, (.r (.bin .add (.tmp 74) (.tmp 76))), []⟩, ⟨(some 8), none, (.a (.tmp 77)), []⟩])))
  .skip))
  rc46_3))
def rc46_5 : RC := (.seq (.seq (.run [⟨(some 57), none, (.r (.mv (.tmp 8))), []⟩, ⟨(some 58), none, (.r (.mv (.tmp 9))), []⟩, ⟨(some 59), none, (.r (.bin .lss (.tmp 57) (.tmp 58))), []⟩])
  (.cond (.tmp 59)
  .skip
  (.exit 1)))
  rc46_4)
def rc46_6 : RC := (.seq (.run [⟨(some 48), none, (.r (.mv (.tmp 1))), []⟩, ⟨(some 49), none, (.r (.ixs (.tmp 48) (.const (.int .i64 0)))), []⟩, ⟨(some 6), none, (.a (.tmp 49)), []⟩])
  (.seq (.run [⟨(some 50), none, (.r (.mv (.tmp 1))), []⟩, ⟨(some 51), none, (.r (.ixs (.tmp 50) (.const (.int .i64 1)))), []⟩, ⟨(some 7), none, (.a (.tmp 51)), []⟩])
  (.seq (.run [⟨(some 8), none, (.a (.const (.int .i64 0))), []⟩])
  (.seq (.run [⟨(some 52), none, (.r (.mv (.tmp 0))), []⟩, ⟨(some 53), none, (.r (.lens (.tmp 52))), []⟩, ⟨(some 54), none, (.r (.mv (.tmp 5))), []⟩, ⟨(some 55), none, (.r (.bin .sub (.tmp 53) (.tmp 54))), []⟩, ⟨(some 56), none, (.r (.bin .add (.tmp 55) (.const (.int .i64 1)))), []⟩, ⟨(some 9), none, (.a (.tmp 56)), []⟩])
  (.seq (.run [⟨(some 10), none, (.a (.const (.int .i64 0))), []⟩])
  (.seq (.block 1 (.loop rc46_5))
  rc46_0))))))
def rc46 : RC := (.seq (.run [⟨(some 4), none, (.a (.const (.int .i64 0))), []⟩])
  (.seq (.run [⟨(some 14), none, (.r (.mv (.tmp 1))), []⟩, ⟨(some 15), none, (.r (.lens (.tmp 14))), []⟩, ⟨(some 5), none, (.a (.tmp 15)), []⟩])
  (.seq (.block 0 (.seq (.run [⟨(some 17), none, (.r (.mv (.tmp 5))), []⟩, ⟨(some 18), none, (.r (.bin .eql (.tmp 17) (.const (.int .i64 0)))), []⟩, ⟨(some 19), none, (.r (.mv (.tmp 18))), []⟩, ⟨(some 20), (some (19, false)), (.r (.mv (.tmp 1))), []⟩, ⟨(some 21), (some (19, false)), (.r (.mv (.tmp 0))), []⟩, ⟨(some 22), (some (19, false)), (.r (.bin .eql (.tmp 20) (.tmp 21))), []⟩, ⟨(some 23), none, (.r (.pick (.tmp 19) (.const (.bool true)) (.tmp 22))), []⟩, ⟨(some 16), none, (.a (.tmp 23)), []⟩])
  (.cond (.tmp 16)
  (.seq (.run [⟨(some 4), none, (.a (.const (.int .i64 0))), []⟩])
  .ret)
  (.seq (.run [⟨(some 25), none, (.r (.mv (.tmp 5))), []⟩, ⟨(some 26), none, (.r (.bin .eql (.tmp 25) (.const (.int .i64 1)))), []⟩, ⟨(some 24), none, (.a (.tmp 26)), []⟩])
  (.cond (.tmp 24)
  (.seq (.run [⟨(some 27), none, (.r (.mv (.tmp 0))), []⟩, ⟨(some 28), none, (.r (.mv (.tmp 1))), []⟩, ⟨(some 29), none, (.r (.ixs (.tmp 28) (.const (.int .i64 0)))), []⟩, ⟨(some 30), none, (.c (.fn 62 [(.tmp 27), (.tmp 29)])), []⟩, ⟨(some 4), none, (.a (.tmp 30)), []⟩])
  .ret)
  (.seq (.run [⟨(some 32), none, (.r (.mv (.tmp 5))), []⟩, ⟨(some 33), none, (.r (.mv (.tmp 0))), []⟩, ⟨(some 34), none, (.r (.lens (.tmp 33))), []⟩, ⟨(some 35), none, (.r (.bin .geq (.tmp 32) (.tmp 34))), []⟩, ⟨(some 31), none, (.a (.tmp 35)), []⟩])
  (.cond (.tmp 31)
  (.seq (.run [⟨(some 4), none, (.a (.const (.int .i64 (-1)))), []⟩])
  .ret)
  (.seq (.run [⟨(some 37), none, (.r (.mv (.tmp 5))), []⟩, ⟨(some 38), none, (.r (.ld (.global 1))), []⟩, ⟨(some 39), none, (.r (.bin .leq (.tmp 37) (.tmp 38))), []⟩, ⟨(some 40), none, (.r (.mv (.tmp 39))), []⟩, ⟨(some 41), (some (40, true)), (.r (.mv (.tmp 0))), []⟩, ⟨(some 42), (some (40, true)), (.r (.lens (.tmp 41))), []⟩, ⟨(some 43), (some (40, true)), (.r (.bin .leq (.tmp 42) (.const (.int .i64 64)))), []⟩, ⟨(some 44), none, (.r (.pick (.tmp 40) (.tmp 43) (.const (.bool false)))), []⟩, ⟨(some 36), none, (.a (.tmp 44)), []⟩])
  (.cond (.tmp 36)
  (.seq (.run [⟨(some 45), none, (.r (.mv (.tmp 0))), []⟩, ⟨(some 46), none, (.r (.mv (.tmp 1))), []⟩, ⟨(some 47), none, (.c (.fn 63 [(.tmp 45), (.tmp 46)])), []⟩, ⟨(some 4), none, (.a (.tmp 47)), []⟩])
  .ret)
  .skip)))))))))
  rc46_6)))
def ce46 : List (Nat × List Nat × List Nat) := []
def ro46 : List RO := [(.mv (.tmp 4))]
theorem ok46 : okFn Tryd.prog 46 143 ce46 = some (rc46, ro46) := by kernel_rfl
/-! strings.explode -/
def rc47_0 : RC := (.seq (.block 1 (.seq (.run [⟨(some 29), none, (.r (.mv (.tmp 0))), []⟩, ⟨(some 30), none, (.c (.fn 67 [(.tmp 29)])), []⟩, ⟨(some 28), none, (.r (.mv (.tmp 30))), []⟩, ⟨(some 31), none, (.r (.ext 0 (.tmp 28))), []⟩, ⟨(some 32), none, (.r (.ext 1 (.tmp 28))), []⟩, ⟨(some 8), none, (.a (.tmp 31)), []⟩, ⟨(some 9), none, (.a (.tmp 32)), []⟩])
  (.seq (.run [⟨(some 33), none, (.r (.mv (.tmp 6))), []⟩, ⟨(some 34), none, (.r (.mv (.tmp 7))), []⟩, ⟨(some 35), none, (.r (.mv (.tmp 0))), []⟩, ⟨(some 36), none, (.r (.mv (.tmp 9))), []⟩, ⟨(some 37), none, (.r (.sls (.tmp 35) none (some (.tmp 36)))), []⟩, ⟨(some 38), none, (.r (.ia 1 (.tmp 33) (.tmp 34))), []⟩, ⟨none, none, (.e (.st 1 (.tmp 38) (.tmp 37))), []⟩])
  (.run [⟨(some 39), none, (.r (.mv (.tmp 0))), []⟩, ⟨(some 40), none, (.r (.mv (.tmp 9))), []⟩, ⟨(some 41), none, (.r (.sls (.tmp 39) (some (.tmp 40)) none)), []⟩, ⟨(some 0), none, (.a (.tmp 41)), []⟩]))))
  (.run [⟨(some 26), none, (.r (.mv (.tmp 7))), []⟩, ⟨(some 27), none, (.r (.bin .add (.tmp 26) (.const (.int .i64 1)))), []⟩, ⟨(some 7), none, (.a (.tmp 27)), []⟩]))
def rc47_1 : RC := (.seq (.seq (.run [⟨(some 22), none, (.r (.mv (.tmp 7))), []⟩, ⟨(some 23), none, (.r (.mv (.tmp 1))), []⟩, ⟨(some 24), none, (.r (.bin .sub (.tmp 23) (.const (.int .i64 1)))), []⟩, ⟨(some 25), none, (.r (.bin .lss (.tmp 22) (.tmp 24))), []⟩])
  (.cond (.tmp 25)
  .skip
  (.exit 0)))
  rc47_0)
def rc47_2 : RC := (.seq (.run [⟨(some 49), none, (.r (.mv (.tmp 6))), []⟩, ⟨(some 4), none, (.a (.tmp 49)), []⟩])
  .ret)
def rc47_3 : RC := (.seq (.seq (.run [⟨(some 42), none, (.r (.mv (.tmp 1))), []⟩, ⟨(some 43), none, (.r (.bin .gtr (.tmp 42) (.const (.int .i64 0)))), []⟩])
  (.cond (.tmp 43)
  (.run [⟨(some 44), none, (.r (.mv (.tmp 6))), []⟩, ⟨(some 45), none, (.r (.mv (.tmp 1))), []⟩, ⟨(some 46), none, (.r (.bin .sub (.tmp 45) (.const (.int .i64 1)))), []⟩, ⟨(some 47), none, (.r (.mv (.tmp 0))), []⟩, ⟨(some 48), none, (.r (.ia 1 (.tmp 44) (.tmp 46))), []⟩, ⟨none, none, (.e (.st 1 (.tmp 48) (.tmp 47))), []⟩])
  .skip))
  rc47_2)
def rc47_4 : RC := (.seq (.run [⟨(some 20), none, (.r (.mv (.tmp 1))), []⟩, ⟨(some 21), none, (.e (.mks 9 16 (.string ⟨#[]⟩) (.tmp 20) (.tmp 20))), []⟩, ⟨(some 6), none, (.a (.tmp 21)), []⟩])
  (.seq (.seq (.run [⟨(some 7), none, (.a (.const (.int .i64 0))), []⟩])
  (.block 0 (.loop rc47_1)))
  rc47_3))
def rc47 : RC := (.seq (.run [⟨(some 4), none, (.a (.const (.slice none 0 0))), []⟩])
  (.seq (.run [⟨(some 10), none, (.r (.mv (.tmp 0))), []⟩, ⟨(some 11), none, (.c (.fn 66 [(.tmp 10)])), []⟩, ⟨(some 5), none, (.a (.tmp 11)), []⟩])
  (.seq (.seq (.run [⟨(some 12), none, (.r (.mv (.tmp 1))), []⟩, ⟨(some 13), none, (.r (.bin .lss (.tmp 12) (.const (.int .i64 0)))), []⟩, ⟨(some 14), none, (.r (.mv (.tmp 13))), []⟩, ⟨(some 15), (some (14, false)), (.r (.mv (.tmp 1))), []⟩, ⟨(some 16), (some (14, false)), (.r (.mv (.tmp 5))), []⟩, ⟨(some 17), (some (14, false)), (.r (.bin .gtr (.tmp 15) (.tmp 16))), []⟩, ⟨(some 18), none, (.r (.pick (.tmp 14) (.const (.bool true)) (.tmp 17))), []⟩])
  (.cond (.tmp 18)
  (.run [⟨(some 19), none, (.r (.mv (.tmp 5))), []⟩, ⟨(some 1), none, (.a (.tmp 19)), []⟩])
  .skip))
  rc47_4)))
def ce47 : List (Nat × List Nat × List Nat) := []
def ro47 : List RO := [(.mv (.tmp 4))]
theorem ok47 : okFn Tryd.prog 47 50 ce47 = some (rc47, ro47) := by kernel_rfl
/-! strings.Count -/
def rc48_0 : RC := (.seq (.run [⟨(some 26), none, (.r (.mv (.tmp 5))), []⟩, ⟨(some 27), none, (.r (.bin .add (.tmp 26) (.const (.int .i64 1)))), []⟩, ⟨(some 5), none, (.a (.tmp 27)), []⟩])
  (.run [⟨(some 28), none, (.r (.mv (.tmp 0))), []⟩, ⟨(some 29), none, (.r (.mv (.tmp 6))), []⟩, ⟨(some 30), none, (.r (.mv (.tmp 1))), []⟩, ⟨(some 31), none, (.r (.lens (.tmp 30))), []⟩, ⟨(some 32), none, (.r (.bin .add (.tmp 29) (.tmp 31))), []⟩, ⟨(some 33), none, (.r (.sls (.tmp 28) (some (.tmp 32)) none)), []⟩, ⟨(some 0), none, (.a (.tmp 33)), []⟩]))
def rc48_1 : RC := (.block 1 (.seq (.run [⟨(some 20), none, (.r (.mv (.tmp 0))), []⟩, ⟨(some 21), none, (.r (.mv (.tmp 1))), []⟩, ⟨(some 22), none, (.c (.fn 49 [(.tmp 20), (.tmp 21)])), []⟩, ⟨(some 6), none, (.a (.tmp 22)), []⟩])
  (.seq (.seq (.run [⟨(some 23), none, (.r (.mv (.tmp 6))), []⟩, ⟨(some 24), none, (.r (.bin .eql (.tmp 23) (.const (.int .i64 (-1))))), []⟩])
  (.cond (.tmp 24)
  (.seq (.run [⟨(some 25), none, (.r (.mv (.tmp 5))), []⟩, ⟨(some 4), none, (.a (.tmp 25)), []⟩])
  .ret)
  .skip))
  rc48_0)))
def rc48_2 : RC := (.seq (.run [⟨(some 5), none, (.a (.const (.int .i64 0))), []⟩])
  (.block 0 (.loop rc48_1)))
def rc48_3 : RC := (.seq (.seq (.run [⟨(some 13), none, (.r (.mv (.tmp 1))), []⟩, ⟨(some 14), none, (.r (.lens (.tmp 13))), []⟩, ⟨(some 15), none, (.r (.bin .eql (.tmp 14) (.const (.int .i64 1)))), []⟩])
  (.cond (.tmp 15)
  (.seq (.run [⟨(some 16), none, (.r (.mv (.tmp 0))), []⟩, ⟨(some 17), none, (.r (.mv (.tmp 1))), []⟩, ⟨(some 18), none, (.r (.ixs (.tmp 17) (.const (.int .i64 0)))), []⟩, ⟨(some 19), none, (.c (.fn 68 [(.tmp 16), (.tmp 18)])), []⟩, ⟨(some 4), none, (.a (.tmp 19)), []⟩])
  .ret)
  .skip))
  rc48_2)
def rc48 : RC := (.seq (.run [⟨(some 4), none, (.a (.const (.int .i64 0))), []⟩])
  (.seq (.seq (.run [⟨(some 7), none, (.r (.mv (.tmp 1))), []⟩, ⟨(some 8), none, (.r (.lens (.tmp 7))), []⟩, ⟨(some 9), none, (.r (.bin .eql (.tmp 8) (.const (.int .i64 0)))), []⟩])
  (.cond (.tmp 9)
  (.seq (.run [⟨(some 10), none, (.r (.mv (.tmp 0))), []⟩, ⟨(some 11), none, (.c (.fn 66 [(.tmp 10)])), []⟩, ⟨(some 12), none, (.r (.bin .add (.tmp 11) (.const (.int .i64 1)))), []⟩, ⟨(some 4), none, (.a (.tmp 12)), []⟩])
  .ret)
  .skip))
  rc48_3))
def ce48 : List (Nat × List Nat × List Nat) := []
def ro48 : List RO := [(.mv (.tmp 4))]
theorem ok48 : okFn Tryd.prog 48 34 ce48 = some (rc48, ro48) := by kernel_rfl
/-! strings.Index -/

def rc49 : RC := (.seq (.run [⟨(some 4), none, (.a (.const (.int .i64 0))), []⟩])
  (.seq (.run [⟨(some 5), none, (.r (.mv (.tmp 0))), []⟩, ⟨(some 6), none, (.r (.mv (.tmp 1))), []⟩, ⟨(some 7), none, (.c (.fn 46 [(.tmp 5), (.tmp 6)])), []⟩, ⟨(some 4), none, (.a (.tmp 7)), []⟩])
  .ret))
def ce49 : List (Nat × List Nat × List Nat) := []
def ro49 : List RO := [(.mv (.tmp 4))]
theorem ok49 : okFn Tryd.prog 49 8 ce49 = some (rc49, ro49) := by kernel_rfl
/-! (*strings.asciiSet).contains -/

def rc50 : RC := (.seq (.run [⟨(some 4), none, (.a (.const (.bool false))), []⟩])
  (.seq (.run [⟨(some 5), none, (.r (.mv (.tmp 0))), []⟩, ⟨(some 6), none, (.r (.mv (.tmp 1))), []⟩, ⟨(some 7), none, (.r (.nck (.tmp 5))), []⟩, ⟨(some 8), none, (.r (.iaa 256 1 (.tmp 7) (.tmp 6))), []⟩, ⟨(some 9), none, (.r (.ld (.tmp 8))), []⟩, ⟨(some 4), none, (.a (.tmp 9)), []⟩])
  .ret))
def ce50 : List (Nat × List Nat × List Nat) := []
def ro50 : List RO := [(.mv (.tmp 4))]
theorem ok50 : okFn Tryd.prog 50 10 ce50 = some (rc50, ro50) := by kernel_rfl
/-! unicode/utf8.DecodeLastRuneInString -/
def rc51_0 : RC := (.seq (.block 1 (.seq (.run [⟨(some 30), none, (.r (.mv (.tmp 0))), []⟩, ⟨(some 31), none, (.r (.mv (.tmp 5))), []⟩, ⟨(some 32), none, (.r (.ixs (.tmp 30) (.tmp 31))), []⟩, ⟨(some 33), none, (.c (.fn 69 [(.tmp 32)])), []⟩])
  (.cond (.tmp 33)
  (.exit 0)
  .skip)))
  (.run [⟨(some 28), none, (.r (.mv (.tmp 5))), []⟩, ⟨(some 29), none, (.r (.bin .sub (.tmp 28) (.const (.int .i64 1)))), []⟩, ⟨(some 5), none, (.a (.tmp 29)), []⟩]))
def rc51_1 : RC := (.seq (.seq (.run [⟨(some 25), none, (.r (.mv (.tmp 5))), []⟩, ⟨(some 26), none, (.r (.mv (.tmp 6))), []⟩, ⟨(some 27), none, (.r (.bin .geq (.tmp 25) (.tmp 26))), []⟩])
  (.cond (.tmp 27)
  .skip
  (.exit 0)))
  rc51_0)
def rc51_2 : RC := (.seq (.run [⟨(some 49), none, (.r (.mv (.tmp 2))), []⟩, ⟨(some 50), none, (.r (.mv (.tmp 3))), []⟩, ⟨(some 2), none, (.a (.tmp 49)), []⟩, ⟨(some 3), none, (.a (.tmp 50)), []⟩])
  .ret)
def rc51_3 : RC := (.seq (.run [⟨(some 37), none, (.r (.mv (.tmp 0))), []⟩, ⟨(some 38), none, (.r (.mv (.tmp 5))), []⟩, ⟨(some 39), none, (.r (.mv (.tmp 4))), []⟩, ⟨(some 40), none, (.r (.sls (.tmp 37) (some (.tmp 38)) (some (.tmp 39)))), []⟩, ⟨(some 41), none, (.c (.fn 67 [(.tmp 40)])), []⟩, ⟨(some 36), none, (.r (.mv (.tmp 41))), []⟩, ⟨(some 42), none, (.r (.ext 0 (.tmp 36))), []⟩, ⟨(some 43), none, (.r (.ext 1 (.tmp 36))), []⟩, ⟨(some 2), none, (.a (.tmp 42)), []⟩, ⟨(some 3), none, (.a (.tmp 43)), []⟩])
  (.seq (.seq (.run [⟨(some 44), none, (.r (.mv (.tmp 5))), []⟩, ⟨(some 45), none, (.r (.mv (.tmp 3))), []⟩, ⟨(some 46), none, (.r (.bin .add (.tmp 44) (.tmp 45))), []⟩, ⟨(some 47), none, (.r (.mv (.tmp 4))), []⟩, ⟨(some 48), none, (.r (.bin .neq (.tmp 46) (.tmp 47))), []⟩])
  (.cond (.tmp 48)
  (.seq (.run [⟨(some 2), none, (.a (.const (.int .i32 65533))), []⟩, ⟨(some 3), none, (.a (.const (.int .i64 1))), []⟩])
  .ret)
  .skip))
  rc51_2))
def rc51_4 : RC := (.seq (.seq (.run [⟨(some 34), none, (.r (.mv (.tmp 5))), []⟩, ⟨(some 35), none, (.r (.bin .lss (.tmp 34) (.const (.int .i64 0)))), []⟩])
  (.cond (.tmp 35)
  (.run [⟨(some 5), none, (.a (.const (.int .i64 0))), []⟩])
  .skip))
  rc51_3)
def rc51_5 : RC := (.seq (.run [⟨(some 20), none, (.r (.mv (.tmp 4))), []⟩, ⟨(some 21), none, (.r (.bin .sub (.tmp 20) (.const (.int .i64 4)))), []⟩, ⟨(some 22), none, (.r (.mx (.tmp 21) (.const (.int .i64 0)))), []⟩, ⟨(some 6), none, (.a (.tmp 22)), []⟩])
  (.seq (.seq (.run [⟨(some 23), none, (.r (.mv (.tmp 5))), []⟩, ⟨(some 24), none, (.r (.bin .sub (.tmp 23) (.const (.int .i64 1)))), []⟩, ⟨(some 5), none, (.a (.tmp 24)), []⟩])
  (.block 0 (.loop rc51_1)))
  rc51_4))
def rc51_6 : RC := (.seq (.run [⟨(some 11), none, (.r (.mv (.tmp 4))), []⟩, ⟨(some 12), none, (.r (.bin .sub (.tmp 11) (.const (.int .i64 1)))), []⟩, ⟨(some 5), none, (.a (.tmp 12)), []⟩])
  (.seq (.run [⟨(some 13), none, (.r (.mv (.tmp 0))), []⟩, ⟨(some 14), none, (.r (.mv (.tmp 5))), []⟩, ⟨(some 15), none, (.r (.ixs (.tmp 13) (.tmp 14))), []⟩, ⟨(some 16), none, (.r (.cvi .i32 (.tmp 15))), []⟩, ⟨(some 2), none, (.a (.tmp 16)), []⟩])
  (.seq (.seq (.run [⟨(some 17), none, (.r (.mv (.tmp 2))), []⟩, ⟨(some 18), none, (.r (.bin .lss (.tmp 17) (.const (.int .i32 128)))), []⟩])
  (.cond (.tmp 18)
  (.seq (.run [⟨(some 19), none, (.r (.mv (.tmp 2))), []⟩, ⟨(some 2), none, (.a (.tmp 19)), []⟩, ⟨(some 3), none, (.a (.const (.int .i64 1))), []⟩])
  .ret)
  .skip))
  rc51_5)))
def rc51 : RC := (.seq (.run [⟨(some 2), none, (.a (.const (.int .i32 0))), []⟩, ⟨(some 3), none, (.a (.const (.int .i64 0))), []⟩])
  (.seq (.run [⟨(some 7), none, (.r (.mv (.tmp 0))), []⟩, ⟨(some 8), none, (.r (.lens (.tmp 7))), []⟩, ⟨(some 4), none, (.a (.tmp 8)), []⟩])
  (.seq (.seq (.run [⟨(some 9), none, (.r (.mv (.tmp 4))), []⟩, ⟨(some 10), none, (.r (.bin .eql (.tmp 9) (.const (.int .i64 0)))), []⟩])
  (.cond (.tmp 10)
  (.seq (.run [⟨(some 2), none, (.a (.const (.int .i32 65533))), []⟩, ⟨(some 3), none, (.a (.const (.int .i64 0))), []⟩])
  .ret)
  .skip))
  rc51_6)))
def ce51 : List (Nat × List Nat × List Nat) := []
def ro51 : List RO := [(.mv (.tmp 2)), (.mv (.tmp 3))]
theorem ok51 : okFn Tryd.prog 51 51 ce51 = some (rc51, ro51) := by kernel_rfl
/-! strings.ContainsRune -/

def rc52 : RC := (.seq (.run [⟨(some 4), none, (.a (.const (.bool false))), []⟩])
  (.seq (.run [⟨(some 5), none, (.r (.mv (.tmp 0))), []⟩, ⟨(some 6), none, (.r (.mv (.tmp 1))), []⟩, ⟨(some 7), none, (.c (.fn 70 [(.tmp 5), (.tmp 6)])), []⟩, ⟨(some 8), none, (.r (.bin .geq (.tmp 7) (.const (.int .i64 0)))), []⟩, ⟨(some 4), none, (.a (.tmp 8)), []⟩])
  .ret))
def ce52 : List (Nat × List Nat × List Nat) := []
def ro52 : List RO := [(.mv (.tmp 4))]
theorem ok52 : okFn Tryd.prog 52 9 ce52 = some (rc52, ro52) := by kernel_rfl
/-! internal/strconv.ParseInt -/
def rc53_0 : RC := (.seq (.run [⟨(some 72), none, (.r (.mv (.tmp 11))), []⟩, ⟨(some 6), none, (.a (.tmp 72)), []⟩, ⟨(some 7), none, (.a (.const .nilIface)), []⟩])
  .ret)
def rc53_1 : RC := (.seq (.run [⟨(some 67), none, (.r (.mv (.tmp 9))), []⟩, ⟨(some 68), none, (.r (.cvi .i64 (.tmp 67))), []⟩, ⟨(some 11), none, (.a (.tmp 68)), []⟩])
  (.seq (.seq (.run [⟨(some 69), none, (.r (.mv (.tmp 8))), []⟩])
  (.cond (.tmp 69)
  (.run [⟨(some 70), none, (.r (.mv (.tmp 11))), []⟩, ⟨(some 71), none, (.r (.neg (.tmp 70))), []⟩, ⟨(some 11), none, (.a (.tmp 71)), []⟩])
  .skip))
  rc53_0))
def rc53_2 : RC := (.seq (.seq (.run [⟨(some 57), none, (.r (.mv (.tmp 8))), []⟩, ⟨(some 58), none, (.r (.mv (.tmp 57))), []⟩, ⟨(some 59), (some (58, true)), (.r (.mv (.tmp 9))), []⟩, ⟨(some 60), (some (58, true)), (.r (.mv (.tmp 10))), []⟩, ⟨(some 61), (some (58, true)), (.r (.bin .gtr (.tmp 59) (.tmp 60))), []⟩, ⟨(some 62), none, (.r (.pick (.tmp 58) (.tmp 61) (.const (.bool false)))), []⟩])
  (.cond (.tmp 62)
  (.seq (.run [⟨(some 63), none, (.r (.mv (.tmp 10))), []⟩, ⟨(some 64), none, (.r (.cvi .i64 (.tmp 63))), []⟩, ⟨(some 65), none, (.r (.neg (.tmp 64))), []⟩, ⟨(some 66), none, (.r (.mki 101 (.const (.int .i64 1)))), []⟩, ⟨(some 6), none, (.a (.tmp 65)), []⟩, ⟨(some 7), none, (.a (.tmp 66)), []⟩])
  .ret)
  .skip))
  rc53_1)
def rc53_3 : RC := (.seq (.run [⟨(some 42), none, (.r (.mv (.tmp 2))), []⟩, ⟨(some 43), none, (.r (.bin .sub (.tmp 42) (.const (.int .i64 1)))), []⟩, ⟨(some 44), none, (.r (.cvi .u64 (.tmp 43))), []⟩, ⟨(some 45), none, (.r (.bin .shl (.const (.int .u64 1)) (.tmp 44))), []⟩, ⟨(some 10), none, (.a (.tmp 45)), []⟩])
  (.seq (.seq (.run [⟨(some 46), none, (.r (.mv (.tmp 8))), []⟩, ⟨(some 47), none, (.r (.not (.tmp 46))), []⟩, ⟨(some 48), none, (.r (.mv (.tmp 47))), []⟩, ⟨(some 49), (some (48, true)), (.r (.mv (.tmp 9))), []⟩, ⟨(some 50), (some (48, true)), (.r (.mv (.tmp 10))), []⟩, ⟨(some 51), (some (48, true)), (.r (.bin .geq (.tmp 49) (.tmp 50))), []⟩, ⟨(some 52), none, (.r (.pick (.tmp 48) (.tmp 51) (.const (.bool false)))), []⟩])
  (.cond (.tmp 52)
  (.seq (.run [⟨(some 53), none, (.r (.mv (.tmp 10))), []⟩, ⟨(some 54), none, (.r (.bin .sub (.tmp 53) (.const (.int .u64 1)))), []⟩, ⟨(some 55), none, (.r (.cvi .i64 (.tmp 54))), []⟩, ⟨(some 56), none, (.r (.mki 101 (.const (.int .i64 1)))), []⟩, ⟨(some 6), none, (.a (.tmp 55)), []⟩, ⟨(some 7), none, (.a (.tmp 56)), []⟩])
  .ret)
  .skip))
  rc53_2))
def rc53_4 : RC := (.seq (.seq (.run [⟨(some 40), none, (.r (.mv (.tmp 2))), []⟩, ⟨(some 41), none, (.r (.bin .eql (.tmp 40) (.const (.int .i64 0)))), []⟩])
  (.cond (.tmp 41)
  (.run [⟨(some 2), none, (.a (.const (.int .i64 64))), []⟩])
  .skip))
  rc53_3)
def rc53_5 : RC := (.seq (.run [⟨(some 9), none, (.a (.const (.int .u64 0))), []⟩])
  (.seq (.run [⟨(some 26), none, (.r (.mv (.tmp 0))), []⟩, ⟨(some 27), none, (.r (.mv (.tmp 1))), []⟩, ⟨(some 28), none, (.r (.mv (.tmp 2))), []⟩, ⟨(some 29), none, (.c (.fn 71 [(.tmp 26), (.tmp 27), (.tmp 28)])), []⟩, ⟨(some 25), none, (.r (.mv (.tmp 29))), []⟩, ⟨(some 30), none, (.r (.ext 0 (.tmp 25))), []⟩, ⟨(some 31), none, (.r (.ext 1 (.tmp 25))), []⟩, ⟨(some 9), none, (.a (.tmp 30)), []⟩, ⟨(some 7), none, (.a (.tmp 31)), []⟩])
  (.seq (.seq (.run [⟨(some 32), none, (.r (.mv (.tmp 7))), []⟩, ⟨(some 33), none, (.r (.eq true (.iface []) (.tmp 32) (.const .nilIface))), []⟩, ⟨(some 34), none, (.r (.mv (.tmp 33))), []⟩, ⟨(some 35), (some (34, true)), (.r (.mv (.tmp 7))), []⟩, ⟨(some 36), (some (34, true)), (.r (.mki 101 (.const (.int .i64 1)))), []⟩, ⟨(some 37), (some (34, true)), (.r (.ieq true [2, 3, 5, 6, 12, 21, 27, 32, 75, 93, 101, 131, 132, 134, 135] (.tmp 35) (.tmp 36))), []⟩, ⟨(some 38), none, (.r (.pick (.tmp 34) (.tmp 37) (.const (.bool false)))), []⟩])
  (.cond (.tmp 38)
  (.seq (.run [⟨(some 39), none, (.r (.mv (.tmp 7))), []⟩, ⟨(some 6), none, (.a (.const (.int .i64 0))), []⟩, ⟨(some 7), none, (.a (.tmp 39)), []⟩])
  .ret)
  .skip))
  rc53_4)))
def rc53_6 : RC := (.seq (.run [⟨(some 8), none, (.a (.const (.bool false))), []⟩])
  (.seq (.seq (.run [⟨(some 15), none, (.r (.mv (.tmp 0))), []⟩, ⟨(some 16), none, (.r (.ixs (.tmp 15) (.const (.int .i64 0)))), []⟩])
  (.block 0 (.seq (.run [⟨(some 18), none, (.r (.bin .eql (.tmp 16) (.const (.int .u8 43)))), []⟩, ⟨(some 17), none, (.a (.tmp 18)), []⟩])
  (.cond (.tmp 17)
  (.run [⟨(some 19), none, (.r (.mv (.tmp 0))), []⟩, ⟨(some 20), none, (.r (.sls (.tmp 19) (some (.const (.int .i64 1))) none)), []⟩, ⟨(some 0), none, (.a (.tmp 20)), []⟩])
  (.seq (.run [⟨(some 22), none, (.r (.bin .eql (.tmp 16) (.const (.int .u8 45)))), []⟩, ⟨(some 21), none, (.a (.tmp 22)), []⟩])
  (.cond (.tmp 21)
  (.seq (.run [⟨(some 23), none, (.r (.mv (.tmp 0))), []⟩, ⟨(some 24), none, (.r (.sls (.tmp 23) (some (.const (.int .i64 1))) none)), []⟩, ⟨(some 0), none, (.a (.tmp 24)), []⟩])
  (.run [⟨(some 8), none, (.a (.const (.bool true))), []⟩]))
  .skip))))))
  rc53_5))
def rc53 : RC := (.seq (.run [⟨(some 6), none, (.a (.const (.int .i64 0))), []⟩, ⟨(some 7), none, (.a (.const .nilIface)), []⟩])
  (.seq (.seq (.run [⟨(some 12), none, (.r (.mv (.tmp 0))), []⟩, ⟨(some 13), none, (.r (.bin .eql (.tmp 12) (.const (.string ⟨#[]⟩)))), []⟩])
  (.cond (.tmp 13)
  (.seq (.run [⟨(some 14), none, (.r (.mki 101 (.const (.int .i64 2)))), []⟩, ⟨(some 6), none, (.a (.const (.int .i64 0))), []⟩, ⟨(some 7), none, (.a (.tmp 14)), []⟩])
  .ret)
  .skip))
  rc53_6))
def ce53 : List (Nat × List Nat × List Nat) := []
def ro53 : List RO := [(.mv (.tmp 6)), (.mv (.tmp 7))]
theorem ok53 : okFn Tryd.prog 53 73 ce53 = some (rc53, ro53) := by kernel_rfl
/-! strconv.toError -/
def rc54_0 : RC := (.seq (.run [⟨(some 42), none, (.r (.mv (.tmp 4))), []⟩, ⟨(some 10), none, (.a (.tmp 42)), []⟩])
  .ret)
def rc54 : RC := (.seq (.run [⟨(some 10), none, (.a (.const .nilIface)), []⟩])
  (.seq (.seq (.run [⟨(some 11), none, (.r (.mv (.tmp 4))), []⟩])
  (.block 0 (.seq (.run [⟨(some 13), none, (.r (.mki 101 (.const (.int .i64 2)))), []⟩, ⟨(some 14), none, (.r (.ieq false [2, 3, 5, 6, 12, 21, 27, 32, 75, 93, 101, 131, 132, 134, 135] (.tmp 11) (.tmp 13))), []⟩, ⟨(some 12), none, (.a (.tmp 14)), []⟩])
  (.cond (.tmp 12)
  (.seq (.run [⟨(some 15), none, (.r (.mv (.tmp 0))), []⟩, ⟨(some 16), none, (.r (.mv (.tmp 1))), []⟩, ⟨(some 17), none, (.c (.fn 72 [(.tmp 15), (.tmp 16)])), []⟩, ⟨(some 18), none, (.r (.mki 104 (.tmp 17))), []⟩, ⟨(some 10), none, (.a (.tmp 18)), []⟩])
  .ret)
  (.seq (.run [⟨(some 20), none, (.r (.mki 101 (.const (.int .i64 1)))), []⟩, ⟨(some 21), none, (.r (.ieq false [2, 3, 5, 6, 12, 21, 27, 32, 75, 93, 101, 131, 132, 134, 135] (.tmp 11) (.tmp 20))), []⟩, ⟨(some 19), none, (.a (.tmp 21)), []⟩])
  (.cond (.tmp 19)
  (.seq (.run [⟨(some 22), none, (.r (.mv (.tmp 0))), []⟩, ⟨(some 23), none, (.r (.mv (.tmp 1))), []⟩, ⟨(some 24), none, (.c (.fn 73 [(.tmp 22), (.tmp 23)])), []⟩, ⟨(some 25), none, (.r (.mki 104 (.tmp 24))), []⟩, ⟨(some 10), none, (.a (.tmp 25)), []⟩])
  .ret)
  (.seq (.run [⟨(some 27), none, (.r (.mki 101 (.const (.int .i64 3)))), []⟩, ⟨(some 28), none, (.r (.ieq false [2, 3, 5, 6, 12, 21, 27, 32, 75, 93, 101, 131, 132, 134, 135] (.tmp 11) (.tmp 27))), []⟩, ⟨(some 26), none, (.a (.tmp 28)), []⟩])
  (.cond (.tmp 26)
  (.seq (.run [⟨(some 29), none, (.r (.mv (.tmp 0))), []⟩, ⟨(some 30), none, (.r (.mv (.tmp 1))), []⟩, ⟨(some 31), none, (.r (.mv (.tmp 2))), []⟩, ⟨(some 32), none, (.c (.fn 74 [(.tmp 29), (.tmp 30), (.tmp 31)])), []⟩, ⟨(some 33), none, (.r (.mki 104 (.tmp 32))), []⟩, ⟨(some 10), none, (.a (.tmp 33)), []⟩])
  .ret)
  (.seq (.run [⟨(some 35), none, (.r (.mki 101 (.const (.int .i64 4)))), []⟩, ⟨(some 36), none, (.r (.ieq false [2, 3, 5, 6, 12, 21, 27, 32, 75, 93, 101, 131, 132, 134, 135] (.tmp 11) (.tmp 35))), []⟩, ⟨(some 34), none, (.a (.tmp 36)), []⟩])
  (.cond (.tmp 34)
  (.seq (.run [⟨(some 37), none, (.r (.mv (.tmp 0))), []⟩, ⟨(some 38), none, (.r (.mv (.tmp 1))), []⟩, ⟨(some 39), none, (.r (.mv (.tmp 3))), []⟩, ⟨(some 40), none, (.c (.fn 75 [(.tmp 37), (.tmp 38), (.tmp 39)])), []⟩, ⟨(some 41), none, (.r (.mki 104 (.tmp 40))), []⟩, ⟨(some 10), none, (.a (.tmp 41)), []⟩])
  .ret)
  .skip))))))))))
  rc54_0))
def ce54 : List (Nat × List Nat × List Nat) := []
def ro54 : List RO := [(.mv (.tmp 10))]
theorem ok54 : okFn Tryd.prog 54 43 ce54 = some (rc54, ro54) := by kernel_rfl
/-! internal/strconv.log10Pow2 -/

def rc55 : RC := (.seq (.run [⟨(some 2), none, (.a (.const (.int .i64 0))), []⟩])
  (.seq (.run [⟨(some 3), none, (.r (.mv (.tmp 0))), []⟩, ⟨(some 4), none, (.r (.bin .mul (.tmp 3) (.const (.int .i64 78913)))), []⟩, ⟨(some 5), none, (.r (.bin .shr (.tmp 4) (.const (.int .u64 18)))), []⟩, ⟨(some 2), none, (.a (.tmp 5)), []⟩])
  .ret))
def ce55 : List (Nat × List Nat × List Nat) := []
def ro55 : List RO := [(.mv (.tmp 2))]
theorem ok55 : okFn Tryd.prog 55 6 ce55 = some (rc55, ro55) := by kernel_rfl
/-! math/bits.Len64 -/
def rc56_0 : RC := (.seq (.run [⟨(some 19), none, (.r (.mv (.tmp 2))), []⟩, ⟨(some 20), none, (.r (.mv (.tmp 0))), []⟩, ⟨(some 21), none, (.r (.cvi .u8 (.tmp 20))), []⟩, ⟨(some 22), none, (.r (.ixs (.const (.string ⟨#[0, 1, 2, 2, 3, 3, 3, 3, 4, 4, 4, 4, 4, 4, 4, 4, 5, 5, 5, 5, 5, 5, 5, 5, 5, 5, 5, 5, 5, 5, 5, 5, 6, 6, 6, 6, 6, 6, 6, 6, 6, 6, 6, 6, 6, 6, 6, 6, 6, 6, 6, 6, 6, 6, 6, 6, 6, 6, 6, 6, 6, 6, 6, 6, 7, 7, 7, 7, 7, 7, 7, 7, 7, 7, 7, 7, 7, 7, 7, 7, 7, 7, 7, 7, 7, 7, 7, 7, 7, 7, 7, 7, 7, 7, 7, 7, 7, 7, 7, 7, 7, 7, 7, 7, 7, 7, 7, 7, 7, 7, 7, 7, 7, 7, 7, 7, 7, 7, 7, 7, 7, 7, 7, 7, 7, 7, 7, 7, 8, 8, 8, 8, 8, 8, 8, 8, 8, 8, 8, 8, 8, 8, 8, 8, 8, 8, 8, 8, 8, 8, 8, 8, 8, 8, 8, 8, 8, 8, 8, 8, 8, 8, 8, 8, 8, 8, 8, 8, 8, 8, 8, 8, 8, 8, 8, 8, 8, 8, 8, 8, 8, 8, 8, 8, 8, 8, 8, 8, 8, 8, 8, 8, 8, 8, 8, 8, 8, 8, 8, 8, 8, 8, 8, 8, 8, 8, 8, 8, 8, 8, 8, 8, 8, 8, 8, 8, 8, 8, 8, 8, 8, 8, 8, 8, 8, 8, 8, 8, 8, 8, 8, 8, 8, 8, 8, 8, 8, 8, 8, 8, 8, 8, 8, 8, 8, 8, 8, 8, 8, 8, 8, 8, 8, 8, 8, 8]⟩)) (.tmp 21))), []⟩, ⟨(some 23), none, (.r (.cvi .i64 (.tmp 22))), []⟩, ⟨(some 24), none, (.r (.bin .add (.tmp 19) (.tmp 23))), []⟩, ⟨(some 2), none, (.a (.tmp 24)), []⟩])
  .ret)
def rc56_1 : RC := (.seq (.seq (.run [⟨(some 13), none, (.r (.mv (.tmp 0))), []⟩, ⟨(some 14), none, (.r (.bin .geq (.tmp 13) (.const (.int .u64 256)))), []⟩])
  (.cond (.tmp 14)
  (.seq (.run [⟨(some 15), none, (.r (.mv (.tmp 0))), []⟩, ⟨(some 16), none, (.r (.bin .shr (.tmp 15) (.const (.int .u64 8)))), []⟩, ⟨(some 0), none, (.a (.tmp 16)), []⟩])
  (.run [⟨(some 17), none, (.r (.mv (.tmp 2))), []⟩, ⟨(some 18), none, (.r (.bin .add (.tmp 17) (.const (.int .i64 8)))), []⟩, ⟨(some 2), none, (.a (.tmp 18)), []⟩]))
  .skip))
  rc56_0)
def rc56_2 : RC := (.seq (.seq (.run [⟨(some 7), none, (.r (.mv (.tmp 0))), []⟩, ⟨(some 8), none, (.r (.bin .geq (.tmp 7) (.const (.int .u64 65536)))), []⟩])
  (.cond (.tmp 8)
  (.seq (.run [⟨(some 9), none, (.r (.mv (.tmp 0))), []⟩, ⟨(some 10), none, (.r (.bin .shr (.tmp 9) (.const (.int .u64 16)))), []⟩, ⟨(some 0), none, (.a (.tmp 10)), []⟩])
  (.run [⟨(some 11), none, (.r (.mv (.tmp 2))), []⟩, ⟨(some 12), none, (.r (.bin .add (.tmp 11) (.const (.int .i64 16)))), []⟩, ⟨(some 2), none, (.a (.tmp 12)), []⟩]))
  .skip))
  rc56_1)
def rc56 : RC := (.seq (.run [⟨(some 2), none, (.a (.const (.int .i64 0))), []⟩])
  (.seq (.seq (.run [⟨(some 3), none, (.r (.mv (.tmp 0))), []⟩, ⟨(some 4), none, (.r (.bin .geq (.tmp 3) (.const (.int .u64 4294967296)))), []⟩])
  (.cond (.tmp 4)
  (.seq (.run [⟨(some 5), none, (.r (.mv (.tmp 0))), []⟩, ⟨(some 6), none, (.r (.bin .shr (.tmp 5) (.const (.int .u64 32)))), []⟩, ⟨(some 0), none, (.a (.tmp 6)), []⟩])
  (.run [⟨(some 2), none, (.a (.const (.int .i64 32))), []⟩]))
  .skip))
  rc56_2))
def ce56 : List (Nat × List Nat × List Nat) := []
def ro56 : List RO := [(.mv (.tmp 2))]
theorem ok56 : okFn Tryd.prog 56 25 ce56 = some (rc56, ro56) := by kernel_rfl
/-! internal/strconv.bool2[int] -/
def rc57_0 : RC := (.seq (.run [⟨(some 2), none, (.a (.const (.int .i64 0))), []⟩])
  .ret)
def rc57 : RC := (.seq (.run [⟨(some 2), none, (.a (.const (.int .i64 0))), []⟩])
  (.seq (.seq (.run [⟨(some 3), none, (.r (.mv (.tmp 0))), []⟩])
  (.cond (.tmp 3)
  (.seq (.run [⟨(some 2), none, (.a (.const (.int .i64 1))), []⟩])
  .ret)
  .skip))
  rc57_0))
def ce57 : List (Nat × List Nat × List Nat) := []
def ro57 : List RO := [(.mv (.tmp 2))]
theorem ok57 : okFn Tryd.prog 57 4 ce57 = some (rc57, ro57) := by kernel_rfl
/-! internal/strconv.isPowerOfTwo -/

def rc58 : RC := (.seq (.run [⟨(some 2), none, (.a (.const (.bool false))), []⟩])
  (.seq (.run [⟨(some 3), none, (.r (.mv (.tmp 0))), []⟩, ⟨(some 4), none, (.r (.mv (.tmp 0))), []⟩, ⟨(some 5), none, (.r (.bin .sub (.tmp 4) (.const (.int .i64 1)))), []⟩, ⟨(some 6), none, (.r (.bin .and (.tmp 3) (.tmp 5))), []⟩, ⟨(some 7), none, (.r (.bin .eql (.tmp 6) (.const (.int .i64 0)))), []⟩, ⟨(some 2), none, (.a (.tmp 7)), []⟩])
  .ret))
def ce58 : List (Nat × List Nat × List Nat) := []
def ro58 : List RO := [(.mv (.tmp 2))]
theorem ok58 : okFn Tryd.prog 58 8 ce58 = some (rc58, ro58) := by kernel_rfl
/-! math/bits.TrailingZeros -/
def rc59_0 : RC := (.seq (.run [⟨(some 6), none, (.r (.mv (.tmp 0))), []⟩, ⟨(some 7), none, (.c (.fn 77 [(.tmp 6)])), []⟩, ⟨(some 2), none, (.a (.tmp 7)), []⟩])
  .ret)
def rc59 : RC := (.seq (.run [⟨(some 2), none, (.a (.const (.int .i64 0))), []⟩])
  (.seq (.cond (.const (.bool false))
  (.seq (.run [⟨(some 3), none, (.r (.mv (.tmp 0))), []⟩, ⟨(some 4), none, (.r (.cvi .u32 (.tmp 3))), []⟩, ⟨(some 5), none, (.c (.fn 76 [(.tmp 4)])), []⟩, ⟨(some 2), none, (.a (.tmp 5)), []⟩])
  .ret)
  .skip)
  rc59_0))
def ce59 : List (Nat × List Nat × List Nat) := []
def ro59 : List RO := [(.mv (.tmp 2))]
theorem ok59 : okFn Tryd.prog 59 8 ce59 = some (rc59, ro59) := by kernel_rfl
/-! internal/stringslite.IndexByte -/

def rc62 : RC := (.seq (.run [⟨(some 4), none, (.a (.const (.int .i64 0))), []⟩])
  (.seq (.run [⟨(some 5), none, (.r (.mv (.tmp 0))), []⟩, ⟨(some 6), none, (.r (.mv (.tmp 1))), []⟩, ⟨(some 7), none, (.c (.fn 78 [(.tmp 5), (.tmp 6)])), []⟩, ⟨(some 4), none, (.a (.tmp 7)), []⟩])
  .ret))
def ce62 : List (Nat × List Nat × List Nat) := []
def ro62 : List RO := [(.mv (.tmp 4))]
theorem ok62 : okFn Tryd.prog 62 8 ce62 = some (rc62, ro62) := by kernel_rfl
/-! internal/bytealg.Cutover -/

def rc64 : RC := (.seq (.run [⟨(some 2), none, (.a (.const (.int .i64 0))), []⟩])
  (.seq (.run [⟨(some 3), none, (.r (.mv (.tmp 0))), []⟩, ⟨(some 4), none, (.r (.bin .add (.tmp 3) (.const (.int .i64 16)))), []⟩, ⟨(some 5), none, (.r (.bin .quo (.tmp 4) (.const (.int .i64 8)))), []⟩, ⟨(some 2), none, (.a (.tmp 5)), []⟩])
  .ret))
def ce64 : List (Nat × List Nat × List Nat) := []
def ro64 : List RO := [(.mv (.tmp 2))]
theorem ok64 : okFn Tryd.prog 64 6 ce64 = some (rc64, ro64) := by kernel_rfl
/-! internal/bytealg.IndexRabinKarp[string] -/
def rc65_0 : RC := (.seq (.block 1 (.run [⟨(some 23), none, (.r (.mv (.tmp 8))), []⟩, ⟨(some 24), none, (.r (.bin .mul (.tmp 23) (.const (.int .u32 16777619)))), []⟩, ⟨(some 25), none, (.r (.mv (.tmp 0))), []⟩, ⟨(some 26), none, (.r (.mv (.tmp 9))), []⟩, ⟨(some 27), none, (.r (.ixs (.tmp 25) (.tmp 26))), []⟩, ⟨(some 28), none, (.r (.cvi .u32 (.tmp 27))), []⟩, ⟨(some 29), none, (.r (.bin .add (.tmp 24) (.tmp 28))), []⟩, ⟨(some 8), none, (.a (.tmp 29)), []⟩]))
  (.run [⟨(some 21), none, (.r (.mv (.tmp 9))), []⟩, ⟨(some 22), none, (.r (.bin .add (.tmp 21) (.const (.int .i64 1)))), []⟩, ⟨(some 9), none, (.a (.tmp 22)), []⟩]))
def rc65_1 : RC := (.seq (.seq (.run [⟨(some 18), none, (.r (.mv (.tmp 9))), []⟩, ⟨(some 19), none, (.r (.mv (.tmp 7))), []⟩, ⟨(some 20), none, (.r (.bin .lss (.tmp 18) (.tmp 19))), []⟩])
  (.cond (.tmp 20)
  .skip
  (.exit 0)))
  rc65_0)
def rc65_2 : RC := (.block 3 (.seq (.run [⟨(some 45), none, (.r (.mv (.tmp 8))), []⟩, ⟨(some 46), none, (.r (.bin .mul (.tmp 45) (.const (.int .u32 16777619)))), []⟩, ⟨(some 8), none, (.a (.tmp 46)), []⟩])
  (.seq (.run [⟨(some 47), none, (.r (.mv (.tmp 8))), []⟩, ⟨(some 48), none, (.r (.mv (.tmp 0))), []⟩, ⟨(some 49), none, (.r (.mv (.tmp 10))), []⟩, ⟨(some 50), none, (.r (.ixs (.tmp 48) (.tmp 49))), []⟩, ⟨(some 51), none, (.r (.cvi .u32 (.tmp 50))), []⟩, ⟨(some 52), none, (.r (.bin .add (.tmp 47) (.tmp 51))), []⟩, ⟨(some 8), none, (.a (.tmp 52)), []⟩])
  (.seq (.run [⟨(some 53), none, (.r (.mv (.tmp 8))), []⟩, ⟨(some 54), none, (.r (.mv (.tmp 6))), []⟩, ⟨(some 55), none, (.r (.mv (.tmp 0))), []⟩, ⟨(some 56), none, (.r (.mv (.tmp 10))), []⟩, ⟨(some 57), none, (.r (.mv (.tmp 7))), []⟩, ⟨(some 58), none, (.r (.bin .sub (.tmp 56) (.tmp 57))), []⟩, ⟨(some 59), none, (.r (.ixs (.tmp 55) (.tmp 58))), []⟩, ⟨(some 60), none, (.r (.cvi .u32 (.tmp 59))), []⟩, ⟨(some 61), none, (.r (.bin .mul (.tmp 54) (.tmp 60))), []⟩, ⟨(some 62), none, (.r (.bin .sub (.tmp 53) (.tmp 61))), []⟩, ⟨(some 8), none, (.a (.tmp 62)), []⟩])
  (.seq (.run [⟨(some 63), none, (.r (.mv (.tmp 10))), []⟩, ⟨(some 64), none, (.r (.bin .add (.tmp 63) (.const (.int .i64 1)))), []⟩, ⟨(some 10), none, (.a (.tmp 64)), []⟩])
  (.seq (.run [⟨(some 65), none, (.r (.mv (.tmp 8))), []⟩, ⟨(some 66), none, (.r (.mv (.tmp 5))), []⟩, ⟨(some 67), none, (.r (.bin .eql (.tmp 65) (.tmp 66))), []⟩, ⟨(some 68), none, (.r (.mv (.tmp 67))), []⟩, ⟨(some 69), (some (68, true)), (.r (.mv (.tmp 0))), []⟩, ⟨(some 70), (some (68, true)), (.r (.mv (.tmp 10))), []⟩, ⟨(some 71), (some (68, true)), (.r (.mv (.tmp 7))), []⟩, ⟨(some 72), (some (68, true)), (.r (.bin .sub (.tmp 70) (.tmp 71))), []⟩, ⟨(some 73), (some (68, true)), (.r (.mv (.tmp 10))), []⟩, ⟨(some 74), (some (68, true)), (.r (.sls (.tmp 69) (some (.tmp 72)) (some (.tmp 73)))), []⟩, ⟨(some 75), (some (68, true)), (.r (.mv (.tmp 1))), []⟩, ⟨(some 76), (some (68, true)), (.r (.bin .eql (.tmp 74) (.tmp 75))), []⟩, ⟨(some 77), none, (.r (.pick (.tmp 68) (.tmp 76) (.const (.bool false)))), []⟩])
  (.cond (.tmp 77)
  (.seq (.run [⟨(some 78), none, (.r (.mv (.tmp 10))), []⟩, ⟨(some 79), none, (.r (.mv (.tmp 7))), []⟩, ⟨(some 80), none, (.r (.bin .sub (.tmp 78) (.tmp 79))), []⟩, ⟨(some 4), none, (.a (.tmp 80)), []⟩])
  .ret)
  .skip)))))))
def rc65_3 : RC := (.seq (.seq (.run [⟨(some 41), none, (.r (.mv (.tmp 10))), []⟩, ⟨(some 42), none, (.r (.mv (.tmp 0))), []⟩, ⟨(some 43), none, (.r (.lens (.tmp 42))), []⟩, ⟨(some 44), none, (.r (.bin .lss (.tmp 41) (.tmp 43))), []⟩])
  (.cond (.tmp 44)
  .skip
  (.exit 2)))
  rc65_2)
def rc65_4 : RC := (.seq (.run [⟨(some 4), none, (.a (.const (.int .i64 (-1)))), []⟩])
  .ret)
def rc65_5 : RC := (.seq (.seq (.run [⟨(some 40), none, (.r (.mv (.tmp 7))), []⟩, ⟨(some 10), none, (.a (.tmp 40)), []⟩])
  (.block 2 (.loop rc65_3)))
  rc65_4)
def rc65_6 : RC := (.seq (.seq (.run [⟨(some 30), none, (.r (.mv (.tmp 8))), []⟩, ⟨(some 31), none, (.r (.mv (.tmp 5))), []⟩, ⟨(some 32), none, (.r (.bin .eql (.tmp 30) (.tmp 31))), []⟩, ⟨(some 33), none, (.r (.mv (.tmp 32))), []⟩, ⟨(some 34), (some (33, true)), (.r (.mv (.tmp 0))), []⟩, ⟨(some 35), (some (33, true)), (.r (.mv (.tmp 7))), []⟩, ⟨(some 36), (some (33, true)), (.r (.sls (.tmp 34) none (some (.tmp 35)))), []⟩, ⟨(some 37), (some (33, true)), (.r (.mv (.tmp 1))), []⟩, ⟨(some 38), (some (33, true)), (.r (.bin .eql (.tmp 36) (.tmp 37))), []⟩, ⟨(some 39), none, (.r (.pick (.tmp 33) (.tmp 38) (.const (.bool false)))), []⟩])
  (.cond (.tmp 39)
  (.seq (.run [⟨(some 4), none, (.a (.const (.int .i64 0))), []⟩])
  .ret)
  .skip))
  rc65_5)
def rc65 : RC := (.seq (.run [⟨(some 4), none, (.a (.const (.int .i64 0))), []⟩])
  (.seq (.run [⟨(some 12), none, (.r (.mv (.tmp 1))), []⟩, ⟨(some 13), none, (.c (.fn 79 [(.tmp 12)])), []⟩, ⟨(some 11), none, (.r (.mv (.tmp 13))), []⟩, ⟨(some 14), none, (.r (.ext 0 (.tmp 11))), []⟩, ⟨(some 15), none, (.r (.ext 1 (.tmp 11))), []⟩, ⟨(some 5), none, (.a (.tmp 14)), []⟩, ⟨(some 6), none, (.a (.tmp 15)), []⟩])
  (.seq (.run [⟨(some 16), none, (.r (.mv (.tmp 1))), []⟩, ⟨(some 17), none, (.r (.lens (.tmp 16))), []⟩, ⟨(some 7), none, (.a (.tmp 17)), []⟩])
  (.seq (.run [⟨(some 8), none, (.a (.const (.int .u32 0))), []⟩])
  (.seq (.seq (.run [⟨(some 9), none, (.a (.const (.int .i64 0))), []⟩])
  (.block 0 (.loop rc65_1)))
  rc65_6)))))
def ce65 : List (Nat × List Nat × List Nat) := []
def ro65 : List RO := [(.mv (.tmp 4))]
theorem ok65 : okFn Tryd.prog 65 81 ce65 = some (rc65, ro65) := by kernel_rfl
/-! unicode/utf8.RuneCountInString -/
def rc66_0 : RC := (.block 1 (.run [⟨(some 7), none, (.r (.mv (.tmp 2))), []⟩, ⟨(some 8), none, (.r (.bin .add (.tmp 7) (.const (.int .i64 1)))), []⟩, ⟨(some 2), none, (.a (.tmp 8)), []⟩]))
def rc66_1 : RC := (.seq (.run [⟨(some 5), none, .bad, []⟩, ⟨(some 6), none, (.r (.ext 0 (.tmp 5))), []⟩])
  (.seq (.cond (.tmp 6)
  .skip
  (.exit 0))
  rc66_0))
def rc66_2 : RC := (.seq (.run [⟨(some 9), none, (.r (.mv (.tmp 2))), []⟩, ⟨(some 2), none, (.a (.tmp 9)), []⟩])
  .ret)
def rc66 : RC := (.seq (.run [⟨(some 2), none, (.a (.const (.int .i64 0))), []⟩])
  (.seq (.seq (.run [⟨(some 3), none, (.r (.mv (.tmp 0))), []⟩, ⟨(some 4), none, .bad, []⟩])
  (.block 0 (.loop rc66_1)))
  rc66_2))
def ce66 : List (Nat × List Nat × List Nat) := []
def ro66 : List RO := [(.mv (.tmp 2))]
theorem ok66 : okFn Tryd.prog 66 10 ce66 = some (rc66, ro66) := by kernel_rfl
/-! unicode/utf8.DecodeRuneInString -/

def rc67 : RC := (.seq (.run [⟨(some 2), none, (.a (.const (.int .i32 0))), []⟩, ⟨(some 3), none, (.a (.const (.int .i64 0))), []⟩])
  (.seq (.seq (.run [⟨(some 4), none, (.r (.mv (.tmp 0))), []⟩, ⟨(some 5), none, (.r (.bin .neq (.tmp 4) (.const (.string ⟨#[]⟩)))), []⟩, ⟨(some 6), none, (.r (.mv (.tmp 5))), []⟩, ⟨(some 7), (some (6, true)), (.r (.mv (.tmp 0))), []⟩, ⟨(some 8), (some (6, true)), (.r (.ixs (.tmp 7) (.const (.int .i64 0)))), []⟩, ⟨(some 9), (some (6, true)), (.r (.bin .lss (.tmp 8) (.const (.int .u8 128)))), []⟩, ⟨(some 10), none, (.r (.pick (.tmp 6) (.tmp 9) (.const (.bool false)))), []⟩])
  (.cond (.tmp 10)
  (.seq (.run [⟨(some 11), none, (.r (.mv (.tmp 0))), []⟩, ⟨(some 12), none, (.r (.ixs (.tmp 11) (.const (.int .i64 0)))), []⟩, ⟨(some 13), none, (.r (.cvi .i32 (.tmp 12))), []⟩, ⟨(some 2), none, (.a (.tmp 13)), []⟩, ⟨(some 3), none, (.a (.const (.int .i64 1))), []⟩])
  .ret)
  (.run [⟨(some 15), none, (.r (.mv (.tmp 0))), []⟩, ⟨(some 16), none, (.c (.fn 80 [(.tmp 15)])), []⟩, ⟨(some 14), none, (.r (.mv (.tmp 16))), []⟩, ⟨(some 17), none, (.r (.ext 0 (.tmp 14))), []⟩, ⟨(some 18), none, (.r (.ext 1 (.tmp 14))), []⟩, ⟨(some 2), none, (.a (.tmp 17)), []⟩, ⟨(some 3), none, (.a (.tmp 18)), []⟩])))
  .ret))
def ce67 : List (Nat × List Nat × List Nat) := []
def ro67 : List RO := [(.mv (.tmp 2)), (.mv (.tmp 3))]
theorem ok67 : okFn Tryd.prog 67 19 ce67 = some (rc67, ro67) := by kernel_rfl
/-! unicode/utf8.RuneStart -/

def rc69 : RC := (.seq (.run [⟨(some 2), none, (.a (.const (.bool false))), []⟩])
  (.seq (.run [⟨(some 3), none, (.r (.mv (.tmp 0))), []⟩, ⟨(some 4), none, (.r (.bin .and (.tmp 3) (.const (.int .u8 192)))), []⟩, ⟨(some 5), none, (.r (.bin .neq (.tmp 4) (.const (.int .u8 128)))), []⟩, ⟨(some 2), none, (.a (.tmp 5)), []⟩])
  .ret))
def ce69 : List (Nat × List Nat × List Nat) := []
def ro69 : List RO := [(.mv (.tmp 2))]
theorem ok69 : okFn Tryd.prog 69 6 ce69 = some (rc69, ro69) := by kernel_rfl
/-! internal/strconv.ParseUint -/
def rc71_0 : RC := (.seq (.run [⟨(some 144), none, (.r (.mv (.tmp 13))), []⟩, ⟨(some 145), none, (.r (.mv (.tmp 1))), []⟩, ⟨(some 146), none, (.r (.cvi .u64 (.tmp 145))), []⟩, ⟨(some 147), none, (.r (.bin .mul (.tmp 144) (.tmp 146))), []⟩, ⟨(some 13), none, (.a (.tmp 147)), []⟩])
  (.seq (.run [⟨(some 148), none, (.r (.mv (.tmp 13))), []⟩, ⟨(some 149), none, (.r (.mv (.tmp 16))), []⟩, ⟨(some 150), none, (.r (.cvi .u64 (.tmp 149))), []⟩, ⟨(some 151), none, (.r (.bin .add (.tmp 148) (.tmp 150))), []⟩, ⟨(some 17), none, (.a (.tmp 151)), []⟩])
  (.seq (.seq (.run [⟨(some 152), none, (.r (.mv (.tmp 17))), []⟩, ⟨(some 153), none, (.r (.mv (.tmp 13))), []⟩, ⟨(some 154), none, (.r (.bin .lss (.tmp 152) (.tmp 153))), []⟩, ⟨(some 155), none, (.r (.mv (.tmp 154))), []⟩, ⟨(some 156), (some (155, false)), (.r (.mv (.tmp 17))), []⟩, ⟨(some 157), (some (155, false)), (.r (.mv (.tmp 11))), []⟩, ⟨(some 158), (some (155, false)), (.r (.bin .gtr (.tmp 156) (.tmp 157))), []⟩, ⟨(some 159), none, (.r (.pick (.tmp 155) (.const (.bool true)) (.tmp 158))), []⟩])
  (.cond (.tmp 159)
  (.seq (.run [⟨(some 160), none, (.r (.mv (.tmp 11))), []⟩, ⟨(some 161), none, (.r (.mki 101 (.const (.int .i64 1)))), []⟩, ⟨(some 6), none, (.a (.tmp 160)), []⟩, ⟨(some 7), none, (.a (.tmp 161)), []⟩])
  .ret)
  .skip))
  (.run [⟨(some 162), none, (.r (.mv (.tmp 17))), []⟩, ⟨(some 13), none, (.a (.tmp 162)), []⟩]))))
def rc71_1 : RC := (.seq (.seq (.run [⟨(some 139), none, (.r (.mv (.tmp 13))), []⟩, ⟨(some 140), none, (.r (.mv (.tmp 10))), []⟩, ⟨(some 141), none, (.r (.bin .geq (.tmp 139) (.tmp 140))), []⟩])
  (.cond (.tmp 141)
  (.seq (.run [⟨(some 142), none, (.r (.mv (.tmp 11))), []⟩, ⟨(some 143), none, (.r (.mki 101 (.const (.int .i64 1)))), []⟩, ⟨(some 6), none, (.a (.tmp 142)), []⟩, ⟨(some 7), none, (.a (.tmp 143)), []⟩])
  .ret)
  .skip))
  rc71_0)
def rc71_2 : RC := (.seq (.seq (.run [⟨(some 134), none, (.r (.mv (.tmp 16))), []⟩, ⟨(some 135), none, (.r (.mv (.tmp 1))), []⟩, ⟨(some 136), none, (.r (.cvi .u8 (.tmp 135))), []⟩, ⟨(some 137), none, (.r (.bin .geq (.tmp 134) (.tmp 136))), []⟩])
  (.cond (.tmp 137)
  (.seq (.run [⟨(some 138), none, (.r (.mki 101 (.const (.int .i64 2)))), []⟩, ⟨(some 6), none, (.a (.const (.int .u64 0))), []⟩, ⟨(some 7), none, (.a (.tmp 138)), []⟩])
  .ret)
  .skip))
  rc71_1)
def rc71_3 : RC := (.seq (.block 4 (.seq (.run [⟨(some 103), none, (.r (.ia 1 (.tmp 99) (.tmp 101))), []⟩, ⟨(some 104), none, (.r (.ld (.tmp 103))), []⟩, ⟨(some 15), none, (.a (.tmp 104)), []⟩])
  (.seq (.run [⟨(some 16), none, (.a (.const (.int .u8 0))), []⟩])
  (.seq (.block 5 (.seq (.run [⟨(some 107), none, (.r (.mv (.tmp 15))), []⟩, ⟨(some 108), none, (.r (.bin .eql (.tmp 107) (.const (.int .u8 95)))), []⟩, ⟨(some 109), none, (.r (.mv (.tmp 108))), []⟩, ⟨(some 110), (some (109, true)), (.r (.mv (.tmp 8))), []⟩, ⟨(some 111), none, (.r (.pick (.tmp 109) (.tmp 110) (.const (.bool false)))), []⟩, ⟨(some 106), none, (.a (.tmp 111)), []⟩])
  (.cond (.tmp 106)
  (.seq (.run [⟨(some 12), none, (.a (.const (.bool true))), []⟩])
  (.exit 4))
  (.seq (.run [⟨(some 113), none, (.r (.mv (.tmp 15))), []⟩, ⟨(some 114), none, (.r (.bin .leq (.const (.int .u8 48)) (.tmp 113))), []⟩, ⟨(some 115), none, (.r (.mv (.tmp 114))), []⟩, ⟨(some 116), (some (115, true)), (.r (.mv (.tmp 15))), []⟩, ⟨(some 117), (some (115, true)), (.r (.bin .leq (.tmp 116) (.const (.int .u8 57)))), []⟩, ⟨(some 118), none, (.r (.pick (.tmp 115) (.tmp 117) (.const (.bool false)))), []⟩, ⟨(some 112), none, (.a (.tmp 118)), []⟩])
  (.cond (.tmp 112)
  (.run [⟨(some 119), none, (.r (.mv (.tmp 15))), []⟩, ⟨(some 120), none, (.r (.bin .sub (.tmp 119) (.const (.int .u8 48)))), []⟩, ⟨(some 16), none, (.a (.tmp 120)), []⟩])
  (.seq (.run [⟨(some 122), none, (.r (.mv (.tmp 15))), []⟩, ⟨(some 123), none, (.c (.fn 83 [(.tmp 122)])), []⟩, ⟨(some 124), none, (.r (.bin .leq (.const (.int .u8 97)) (.tmp 123))), []⟩, ⟨(some 125), none, (.r (.mv (.tmp 124))), []⟩, ⟨(some 126), (some (125, true)), (.r (.mv (.tmp 15))), []⟩, ⟨(some 127), (some (125, true)), (.c (.fn 83 [(.tmp 126)])), []⟩, ⟨(some 128), (some (125, true)), (.r (.bin .leq (.tmp 127) (.const (.int .u8 122)))), []⟩, ⟨(some 129), none, (.r (.pick (.tmp 125) (.tmp 128) (.const (.bool false)))), []⟩, ⟨(some 121), none, (.a (.tmp 129)), []⟩])
  (.cond (.tmp 121)
  (.run [⟨(some 130), none, (.r (.mv (.tmp 15))), []⟩, ⟨(some 131), none, (.c (.fn 83 [(.tmp 130)])), []⟩, ⟨(some 132), none, (.r (.bin .sub (.tmp 131) (.const (.int .u8 97)))), []⟩, ⟨(some 133), none, (.r (.bin .add (.tmp 132) (.const (.int .u8 10)))), []⟩, ⟨(some 16), none, (.a (.tmp 133)), []⟩])
  (.seq (.run [⟨(some 105), none, (.r (.mki 101 (.const (.int .i64 2)))), []⟩, ⟨(some 6), none, (.a (.const (.int .u64 0))), []⟩, ⟨(some 7), none, (.a (.tmp 105)), []⟩])
  .ret))))))))
  rc71_2))))
  (.run [⟨(some 163), none, (.r (.bin .add (.tmp 101) (.const (.int .i64 1)))), []⟩, ⟨(some 101), none, (.r (.mv (.tmp 163))), []⟩]))
def rc71_4 : RC := (.seq (.run [⟨(some 102), none, (.r (.bin .lss (.tmp 101) (.tmp 100))), []⟩])
  (.seq (.cond (.tmp 102)
  .skip
  (.exit 3))
  rc71_3))
def rc71_5 : RC := (.seq (.run [⟨(some 171), none, (.r (.mv (.tmp 13))), []⟩, ⟨(some 6), none, (.a (.tmp 171)), []⟩, ⟨(some 7), none, (.a (.const .nilIface)), []⟩])
  .ret)
def rc71_6 : RC := (.seq (.seq (.run [⟨(some 164), none, (.r (.mv (.tmp 12))), []⟩, ⟨(some 165), none, (.r (.mv (.tmp 164))), []⟩, ⟨(some 166), (some (165, true)), (.r (.mv (.tmp 9))), []⟩, ⟨(some 167), (some (165, true)), (.c (.fn 84 [(.tmp 166)])), []⟩, ⟨(some 168), (some (165, true)), (.r (.not (.tmp 167))), []⟩, ⟨(some 169), none, (.r (.pick (.tmp 165) (.tmp 168) (.const (.bool false)))), []⟩])
  (.cond (.tmp 169)
  (.seq (.run [⟨(some 170), none, (.r (.mki 101 (.const (.int .i64 2)))), []⟩, ⟨(some 6), none, (.a (.const (.int .u64 0))), []⟩, ⟨(some 7), none, (.a (.tmp 170)), []⟩])
  .ret)
  .skip))
  rc71_5)
def rc71_7 : RC := (.seq (.run [⟨(some 94), none, (.r (.mv (.tmp 2))), []⟩, ⟨(some 95), none, (.r (.cvi .u64 (.tmp 94))), []⟩, ⟨(some 96), none, (.r (.bin .shl (.const (.int .u64 1)) (.tmp 95))), []⟩, ⟨(some 97), none, (.r (.bin .sub (.tmp 96) (.const (.int .u64 1)))), []⟩, ⟨(some 11), none, (.a (.tmp 97)), []⟩])
  (.seq (.run [⟨(some 12), none, (.a (.const (.bool false))), []⟩])
  (.seq (.run [⟨(some 13), none, (.a (.const (.int .u64 0))), []⟩])
  (.seq (.seq (.run [⟨(some 98), none, (.r (.mv (.tmp 0))), []⟩, ⟨(some 99), none, (.e (.s2b 5 (.tmp 98))), []⟩, ⟨(some 100), none, (.r (.lenl (.tmp 99))), []⟩, ⟨(some 101), none, (.r (.mv (.const (.int .i64 0)))), []⟩])
  (.block 3 (.loop rc71_4)))
  rc71_6))))
def rc71_8 : RC := (.seq (.run [⟨(some 10), none, (.a (.const (.int .u64 0))), []⟩])
  (.seq (.seq (.run [⟨(some 85), none, (.r (.mv (.tmp 1))), []⟩])
  (.block 2 (.seq (.run [⟨(some 91), none, (.r (.bin .eql (.tmp 85) (.const (.int .i64 10)))), []⟩, ⟨(some 90), none, (.a (.tmp 91)), []⟩])
  (.cond (.tmp 90)
  (.run [⟨(some 10), none, (.a (.const (.int .u64 1844674407370955162))), []⟩])
  (.seq (.run [⟨(some 93), none, (.r (.bin .eql (.tmp 85) (.const (.int .i64 16)))), []⟩, ⟨(some 92), none, (.a (.tmp 93)), []⟩])
  (.cond (.tmp 92)
  (.run [⟨(some 10), none, (.a (.const (.int .u64 1152921504606846976))), []⟩])
  (.run [⟨(some 86), none, (.r (.mv (.tmp 1))), []⟩, ⟨(some 87), none, (.r (.cvi .u64 (.tmp 86))), []⟩, ⟨(some 88), none, (.r (.bin .quo (.const (.int .u64 18446744073709551615)) (.tmp 87))), []⟩, ⟨(some 89), none, (.r (.bin .add (.tmp 88) (.const (.int .u64 1)))), []⟩, ⟨(some 10), none, (.a (.tmp 89)), []⟩])))))))
  rc71_7))
def rc71_9 : RC := (.seq (.seq (.run [⟨(some 76), none, (.r (.mv (.tmp 2))), []⟩, ⟨(some 77), none, (.r (.bin .eql (.tmp 76) (.const (.int .i64 0)))), []⟩])
  (.cond (.tmp 77)
  (.run [⟨(some 2), none, (.a (.const (.int .i64 64))), []⟩])
  (.seq (.run [⟨(some 78), none, (.r (.mv (.tmp 2))), []⟩, ⟨(some 79), none, (.r (.bin .lss (.tmp 78) (.const (.int .i64 0)))), []⟩, ⟨(some 80), none, (.r (.mv (.tmp 79))), []⟩, ⟨(some 81), (some (80, false)), (.r (.mv (.tmp 2))), []⟩, ⟨(some 82), (some (80, false)), (.r (.bin .gtr (.tmp 81) (.const (.int .i64 64)))), []⟩, ⟨(some 83), none, (.r (.pick (.tmp 80) (.const (.bool true)) (.tmp 82))), []⟩])
  (.cond (.tmp 83)
  (.seq (.run [⟨(some 84), none, (.r (.mki 101 (.const (.int .i64 4)))), []⟩, ⟨(some 6), none, (.a (.const (.int .u64 0))), []⟩, ⟨(some 7), none, (.a (.tmp 84)), []⟩])
  .ret)
  .skip))))
  rc71_8)
def rc71_10 : RC := (.seq (.run [⟨(some 21), none, (.r (.mv (.tmp 1))), []⟩, ⟨(some 22), none, (.r (.bin .eql (.tmp 21) (.const (.int .i64 0)))), []⟩, ⟨(some 8), none, (.a (.tmp 22)), []⟩])
  (.seq (.run [⟨(some 23), none, (.r (.mv (.tmp 0))), []⟩, ⟨(some 9), none, (.a (.tmp 23)), []⟩])
  (.seq (.block 0 (.seq (.run [⟨(some 26), none, (.r (.mv (.tmp 1))), []⟩, ⟨(some 27), none, (.r (.bin .leq (.const (.int .i64 2)) (.tmp 26))), []⟩, ⟨(some 28), none, (.r (.mv (.tmp 27))), []⟩, ⟨(some 29), (some (28, true)), (.r (.mv (.tmp 1))), []⟩, ⟨(some 30), (some (28, true)), (.r (.bin .leq (.tmp 29) (.const (.int .i64 36)))), []⟩, ⟨(some 31), none, (.r (.pick (.tmp 28) (.tmp 30) (.const (.bool false)))), []⟩, ⟨(some 25), none, (.a (.tmp 31)), []⟩])
  (.cond (.tmp 25)
  .skip
  (.seq (.run [⟨(some 33), none, (.r (.mv (.tmp 1))), []⟩, ⟨(some 34), none, (.r (.bin .eql (.tmp 33) (.const (.int .i64 0)))), []⟩, ⟨(some 32), none, (.a (.tmp 34)), []⟩])
  (.cond (.tmp 32)
  (.seq (.run [⟨(some 1), none, (.a (.const (.int .i64 10))), []⟩])
  (.seq (.run [⟨(some 35), none, (.r (.mv (.tmp 0))), []⟩, ⟨(some 36), none, (.r (.ixs (.tmp 35) (.const (.int .i64 0)))), []⟩, ⟨(some 37), none, (.r (.bin .eql (.tmp 36) (.const (.int .u8 48)))), []⟩])
  (.cond (.tmp 37)
  (.block 1 (.seq (.run [⟨(some 41), none, (.r (.mv (.tmp 0))), []⟩, ⟨(some 42), none, (.r (.lens (.tmp 41))), []⟩, ⟨(some 43), none, (.r (.bin .geq (.tmp 42) (.const (.int .i64 3)))), []⟩, ⟨(some 44), none, (.r (.mv (.tmp 43))), []⟩, ⟨(some 45), (some (44, true)), (.r (.mv (.tmp 0))), []⟩, ⟨(some 46), (some (44, true)), (.r (.ixs (.tmp 45) (.const (.int .i64 1)))), []⟩, ⟨(some 47), (some (44, true)), (.c (.fn 83 [(.tmp 46)])), []⟩, ⟨(some 48), (some (44, true)), (.r (.bin .eql (.tmp 47) (.const (.int .u8 98)))), []⟩, ⟨(some 49), none, (.r (.pick (.tmp 44) (.tmp 48) (.const (.bool false)))), []⟩, ⟨(some 40), none, (.a (.tmp 49)), []⟩])
  (.cond (.tmp 40)
  (.seq (.run [⟨(some 1), none, (.a (.const (.int .i64 2))), []⟩])
  (.run [⟨(some 50), none, (.r (.mv (.tmp 0))), []⟩, ⟨(some 51), none, (.r (.sls (.tmp 50) (some (.const (.int .i64 2))) none)), []⟩, ⟨(some 0), none, (.a (.tmp 51)), []⟩]))
  (.seq (.run [⟨(some 53), none, (.r (.mv (.tmp 0))), []⟩, ⟨(some 54), none, (.r (.lens (.tmp 53))), []⟩, ⟨(some 55), none, (.r (.bin .geq (.tmp 54) (.const (.int .i64 3)))), []⟩, ⟨(some 56), none, (.r (.mv (.tmp 55))), []⟩, ⟨(some 57), (some (56, true)), (.r (.mv (.tmp 0))), []⟩, ⟨(some 58), (some (56, true)), (.r (.ixs (.tmp 57) (.const (.int .i64 1)))), []⟩, ⟨(some 59), (some (56, true)), (.c (.fn 83 [(.tmp 58)])), []⟩, ⟨(some 60), (some (56, true)), (.r (.bin .eql (.tmp 59) (.const (.int .u8 111)))), []⟩, ⟨(some 61), none, (.r (.pick (.tmp 56) (.tmp 60) (.const (.bool false)))), []⟩, ⟨(some 52), none, (.a (.tmp 61)), []⟩])
  (.cond (.tmp 52)
  (.seq (.run [⟨(some 1), none, (.a (.const (.int .i64 8))), []⟩])
  (.run [⟨(some 62), none, (.r (.mv (.tmp 0))), []⟩, ⟨(some 63), none, (.r (.sls (.tmp 62) (some (.const (.int .i64 2))) none)), []⟩, ⟨(some 0), none, (.a (.tmp 63)), []⟩]))
  (.seq (.run [⟨(some 65), none, (.r (.mv (.tmp 0))), []⟩, ⟨(some 66), none, (.r (.lens (.tmp 65))), []⟩, ⟨(some 67), none, (.r (.bin .geq (.tmp 66) (.const (.int .i64 3)))), []⟩, ⟨(some 68), none, (.r (.mv (.tmp 67))), []⟩, ⟨(some 69), (some (68, true)), (.r (.mv (.tmp 0))), []⟩, ⟨(some 70), (some (68, true)), (.r (.ixs (.tmp 69) (.const (.int .i64 1)))), []⟩, ⟨(some 71), (some (68, true)), (.c (.fn 83 [(.tmp 70)])), []⟩, ⟨(some 72), (some (68, true)), (.r (.bin .eql (.tmp 71) (.const (.int .u8 120)))), []⟩, ⟨(some 73), none, (.r (.pick (.tmp 68) (.tmp 72) (.const (.bool false)))), []⟩, ⟨(some 64), none, (.a (.tmp 73)), []⟩])
  (.cond (.tmp 64)
  (.seq (.run [⟨(some 1), none, (.a (.const (.int .i64 16))), []⟩])
  (.run [⟨(some 74), none, (.r (.mv (.tmp 0))), []⟩, ⟨(some 75), none, (.r (.sls (.tmp 74) (some (.const (.int .i64 2))) none)), []⟩, ⟨(some 0), none, (.a (.tmp 75)), []⟩]))
  (.seq (.run [⟨(some 1), none, (.a (.const (.int .i64 8))), []⟩])
  (.run [⟨(some 38), none, (.r (.mv (.tmp 0))), []⟩, ⟨(some 39), none, (.r (.sls (.tmp 38) (some (.const (.int .i64 1))) none)), []⟩, ⟨(some 0), none, (.a (.tmp 39)), []⟩])))))))))
  .skip)))
  (.seq (.run [⟨(some 24), none, (.r (.mki 101 (.const (.int .i64 3)))), []⟩, ⟨(some 6), none, (.a (.const (.int .u64 0))), []⟩, ⟨(some 7), none, (.a (.tmp 24)), []⟩])
  .ret))))))
  rc71_9)))
def rc71 : RC := (.seq (.run [⟨(some 6), none, (.a (.const (.int .u64 0))), []⟩, ⟨(some 7), none, (.a (.const .nilIface)), []⟩])
  (.seq (.seq (.run [⟨(some 18), none, (.r (.mv (.tmp 0))), []⟩, ⟨(some 19), none, (.r (.bin .eql (.tmp 18) (.const (.string ⟨#[]⟩)))), []⟩])
  (.cond (.tmp 19)
  (.seq (.run [⟨(some 20), none, (.r (.mki 101 (.const (.int .i64 2)))), []⟩, ⟨(some 6), none, (.a (.const (.int .u64 0))), []⟩, ⟨(some 7), none, (.a (.tmp 20)), []⟩])
  .ret)
  .skip))
  rc71_10))
def ce71 : List (Nat × List Nat × List Nat) := []
def ro71 : List RO := [(.mv (.tmp 6)), (.mv (.tmp 7))]
theorem ok71 : okFn Tryd.prog 71 172 ce71 = some (rc71, ro71) := by kernel_rfl
/-! strconv.syntaxError -/

def rc72 : RC := (.seq (.run [⟨(some 4), none, (.a (.const (.pointer none))), []⟩])
  (.seq (.run [⟨(some 5), none, (.r (.mv (.tmp 0))), []⟩, ⟨(some 6), none, (.r (.mv (.tmp 1))), []⟩, ⟨(some 8), none, (.r (.ld (.global 2))), []⟩, ⟨(some 7), none, (.c (.fn 85 [(.tmp 6)])), [(8, none, .ld (.global 2))]⟩, ⟨(some 9), none, (.r (.bld [(.string ⟨#[]⟩), (.string ⟨#[]⟩), .nilIface] [(0, 1, (.tmp 5)), (1, 1, (.tmp 7)), (2, 1, (.tmp 8))])), []⟩, ⟨(some 10), none, (.e (.bx 114 (.tmp 9))), []⟩, ⟨(some 4), none, (.a (.tmp 10)), []⟩])
  .ret))
def ce72 : List (Nat × List Nat × List Nat) := [(1, [0, 1, 3, 2, 4, 5, 6], [0, 0, 2, 0, 15, 31, 63])]
def ro72 : List RO := [(.mv (.tmp 4))]
theorem ok72 : okFn Tryd.prog 72 11 ce72 = some (rc72, ro72) := by kernel_rfl
/-! strconv.rangeError -/

def rc73 : RC := (.seq (.run [⟨(some 4), none, (.a (.const (.pointer none))), []⟩])
  (.seq (.run [⟨(some 5), none, (.r (.mv (.tmp 0))), []⟩, ⟨(some 6), none, (.r (.mv (.tmp 1))), []⟩, ⟨(some 8), none, (.r (.ld (.global 3))), []⟩, ⟨(some 7), none, (.c (.fn 85 [(.tmp 6)])), [(8, none, .ld (.global 3))]⟩, ⟨(some 9), none, (.r (.bld [(.string ⟨#[]⟩), (.string ⟨#[]⟩), .nilIface] [(0, 1, (.tmp 5)), (1, 1, (.tmp 7)), (2, 1, (.tmp 8))])), []⟩, ⟨(some 10), none, (.e (.bx 114 (.tmp 9))), []⟩, ⟨(some 4), none, (.a (.tmp 10)), []⟩])
  .ret))
def ce73 : List (Nat × List Nat × List Nat) := [(1, [0, 1, 3, 2, 4, 5, 6], [0, 0, 2, 0, 15, 31, 63])]
def ro73 : List RO := [(.mv (.tmp 4))]
theorem ok73 : okFn Tryd.prog 73 11 ce73 = some (rc73, ro73) := by kernel_rfl
/-! strconv.baseError -/

def rc74 : RC := (.seq (.run [⟨(some 6), none, (.a (.const (.pointer none))), []⟩])
  (.seq (.run [⟨(some 7), none, (.r (.mv (.tmp 0))), []⟩, ⟨(some 8), none, (.r (.mv (.tmp 1))), []⟩, ⟨(some 9), none, (.c (.fn 85 [(.tmp 8)])), []⟩, ⟨(some 10), none, (.r (.mv (.tmp 2))), []⟩, ⟨(some 11), none, (.c (.fn 20 [(.tmp 10)])), []⟩, ⟨(some 12), none, (.r (.bin .add (.const (.string ⟨#[105, 110, 118, 97, 108, 105, 100, 32, 98, 97, 115, 101, 32]⟩)) (.tmp 11))), []⟩, ⟨(some 13), none, (.c (.fn 86 [(.tmp 12)])), []⟩, ⟨(some 14), none, (.r (.bld [(.string ⟨#[]⟩), (.string ⟨#[]⟩), .nilIface] [(0, 1, (.tmp 7)), (1, 1, (.tmp 9)), (2, 1, (.tmp 13))])), []⟩, ⟨(some 15), none, (.e (.bx 114 (.tmp 14))), []⟩, ⟨(some 6), none, (.a (.tmp 15)), []⟩])
  .ret))
def ce74 : List (Nat × List Nat × List Nat) := []
def ro74 : List RO := [(.mv (.tmp 6))]
theorem ok74 : okFn Tryd.prog 74 16 ce74 = some (rc74, ro74) := by kernel_rfl
/-! strconv.bitSizeError -/

def rc75 : RC := (.seq (.run [⟨(some 6), none, (.a (.const (.pointer none))), []⟩])
  (.seq (.run [⟨(some 7), none, (.r (.mv (.tmp 0))), []⟩, ⟨(some 8), none, (.r (.mv (.tmp 1))), []⟩, ⟨(some 9), none, (.c (.fn 85 [(.tmp 8)])), []⟩, ⟨(some 10), none, (.r (.mv (.tmp 2))), []⟩, ⟨(some 11), none, (.c (.fn 20 [(.tmp 10)])), []⟩, ⟨(some 12), none, (.r (.bin .add (.const (.string ⟨#[105, 110, 118, 97, 108, 105, 100, 32, 98, 105, 116, 32, 115, 105, 122, 101, 32]⟩)) (.tmp 11))), []⟩, ⟨(some 13), none, (.c (.fn 86 [(.tmp 12)])), []⟩, ⟨(some 14), none, (.r (.bld [(.string ⟨#[]⟩), (.string ⟨#[]⟩), .nilIface] [(0, 1, (.tmp 7)), (1, 1, (.tmp 9)), (2, 1, (.tmp 13))])), []⟩, ⟨(some 15), none, (.e (.bx 114 (.tmp 14))), []⟩, ⟨(some 6), none, (.a (.tmp 15)), []⟩])
  .ret))
def ce75 : List (Nat × List Nat × List Nat) := []
def ro75 : List RO := [(.mv (.tmp 6))]
theorem ok75 : okFn Tryd.prog 75 16 ce75 = some (rc75, ro75) := by kernel_rfl
/-! math/bits.TrailingZeros32 -/
def rc76_0 : RC := (.seq (.run [⟨(some 5), none, (.r (.mv (.tmp 0))), []⟩, ⟨(some 6), none, (.r (.mv (.tmp 0))), []⟩, ⟨(some 7), none, (.r (.neg (.tmp 6))), []⟩, ⟨(some 8), none, (.r (.bin .and (.tmp 5) (.tmp 7))), []⟩, ⟨(some 9), none, (.r (.bin .mul (.tmp 8) (.const (.int .u32 125613361)))), []⟩, ⟨(some 10), none, (.r (.bin .shr (.tmp 9) (.const (.int .u64 27)))), []⟩, ⟨(some 11), none, (.r (.iaa 32 1 (.global 4) (.tmp 10))), []⟩, ⟨(some 12), none, (.r (.ld (.tmp 11))), []⟩, ⟨(some 13), none, (.r (.cvi .i64 (.tmp 12))), []⟩, ⟨(some 2), none, (.a (.tmp 13)), []⟩])
  .ret)
def rc76 : RC := (.seq (.run [⟨(some 2), none, (.a (.const (.int .i64 0))), []⟩])
  (.seq (.seq (.run [⟨(some 3), none, (.r (.mv (.tmp 0))), []⟩, ⟨(some 4), none, (.r (.bin .eql (.tmp 3) (.const (.int .u32 0)))), []⟩])
  (.cond (.tmp 4)
  (.seq (.run [⟨(some 2), none, (.a (.const (.int .i64 32))), []⟩])
  .ret)
  .skip))
  rc76_0))
def ce76 : List (Nat × List Nat × List Nat) := []
def ro76 : List RO := [(.mv (.tmp 2))]
theorem ok76 : okFn Tryd.prog 76 14 ce76 = some (rc76, ro76) := by kernel_rfl
/-! math/bits.TrailingZeros64 -/
def rc77_0 : RC := (.seq (.run [⟨(some 5), none, (.r (.mv (.tmp 0))), []⟩, ⟨(some 6), none, (.r (.mv (.tmp 0))), []⟩, ⟨(some 7), none, (.r (.neg (.tmp 6))), []⟩, ⟨(some 8), none, (.r (.bin .and (.tmp 5) (.tmp 7))), []⟩, ⟨(some 9), none, (.r (.bin .mul (.tmp 8) (.const (.int .u64 285870213051353865)))), []⟩, ⟨(some 10), none, (.r (.bin .shr (.tmp 9) (.const (.int .u64 58)))), []⟩, ⟨(some 11), none, (.r (.iaa 64 1 (.global 5) (.tmp 10))), []⟩, ⟨(some 12), none, (.r (.ld (.tmp 11))), []⟩, ⟨(some 13), none, (.r (.cvi .i64 (.tmp 12))), []⟩, ⟨(some 2), none, (.a (.tmp 13)), []⟩])
  .ret)
def rc77 : RC := (.seq (.run [⟨(some 2), none, (.a (.const (.int .i64 0))), []⟩])
  (.seq (.seq (.run [⟨(some 3), none, (.r (.mv (.tmp 0))), []⟩, ⟨(some 4), none, (.r (.bin .eql (.tmp 3) (.const (.int .u64 0)))), []⟩])
  (.cond (.tmp 4)
  (.seq (.run [⟨(some 2), none, (.a (.const (.int .i64 64))), []⟩])
  .ret)
  .skip))
  rc77_0))
def ce77 : List (Nat × List Nat × List Nat) := []
def ro77 : List RO := [(.mv (.tmp 2))]
theorem ok77 : okFn Tryd.prog 77 14 ce77 = some (rc77, ro77) := by kernel_rfl
/-! internal/bytealg.hashStr[string] -/
def rc79_0 : RC := (.seq (.block 1 (.run [⟨(some 15), none, (.r (.mv (.tmp 4))), []⟩, ⟨(some 16), none, (.r (.bin .mul (.tmp 15) (.const (.int .u32 16777619)))), []⟩, ⟨(some 17), none, (.r (.mv (.tmp 0))), []⟩, ⟨(some 18), none, (.r (.mv (.tmp 5))), []⟩, ⟨(some 19), none, (.r (.ixs (.tmp 17) (.tmp 18))), []⟩, ⟨(some 20), none, (.r (.cvi .u32 (.tmp 19))), []⟩, ⟨(some 21), none, (.r (.bin .add (.tmp 16) (.tmp 20))), []⟩, ⟨(some 4), none, (.a (.tmp 21)), []⟩]))
  (.run [⟨(some 13), none, (.r (.mv (.tmp 5))), []⟩, ⟨(some 14), none, (.r (.bin .add (.tmp 13) (.const (.int .i64 1)))), []⟩, ⟨(some 5), none, (.a (.tmp 14)), []⟩]))
def rc79_1 : RC := (.seq (.seq (.run [⟨(some 9), none, (.r (.mv (.tmp 5))), []⟩, ⟨(some 10), none, (.r (.mv (.tmp 0))), []⟩, ⟨(some 11), none, (.r (.lens (.tmp 10))), []⟩, ⟨(some 12), none, (.r (.bin .lss (.tmp 9) (.tmp 11))), []⟩])
  (.cond (.tmp 12)
  .skip
  (.exit 0)))
  rc79_0)
def rc79_2 : RC := (.seq (.block 3 (.seq (.seq (.run [⟨(some 28), none, (.r (.mv (.tmp 8))), []⟩, ⟨(some 29), none, (.r (.bin .and (.tmp 28) (.const (.int .i64 1)))), []⟩, ⟨(some 30), none, (.r (.bin .neq (.tmp 29) (.const (.int .i64 0)))), []⟩])
  (.cond (.tmp 30)
  (.run [⟨(some 31), none, (.r (.mv (.tmp 6))), []⟩, ⟨(some 32), none, (.r (.mv (.tmp 7))), []⟩, ⟨(some 33), none, (.r (.bin .mul (.tmp 31) (.tmp 32))), []⟩, ⟨(some 6), none, (.a (.tmp 33)), []⟩])
  .skip))
  (.run [⟨(some 34), none, (.r (.mv (.tmp 7))), []⟩, ⟨(some 35), none, (.r (.mv (.tmp 7))), []⟩, ⟨(some 36), none, (.r (.bin .mul (.tmp 34) (.tmp 35))), []⟩, ⟨(some 7), none, (.a (.tmp 36)), []⟩])))
  (.run [⟨(some 26), none, (.r (.mv (.tmp 8))), []⟩, ⟨(some 27), none, (.r (.bin .shr (.tmp 26) (.const (.int .u64 1)))), []⟩, ⟨(some 8), none, (.a (.tmp 27)), []⟩]))
def rc79_3 : RC := (.seq (.seq (.run [⟨(some 24), none, (.r (.mv (.tmp 8))), []⟩, ⟨(some 25), none, (.r (.bin .gtr (.tmp 24) (.const (.int .i64 0)))), []⟩])
  (.cond (.tmp 25)
  .skip
  (.exit 2)))
  rc79_2)
def rc79_4 : RC := (.seq (.run [⟨(some 37), none, (.r (.mv (.tmp 4))), []⟩, ⟨(some 38), none, (.r (.mv (.tmp 6))), []⟩, ⟨(some 2), none, (.a (.tmp 37)), []⟩, ⟨(some 3), none, (.a (.tmp 38)), []⟩])
  .ret)
def rc79_5 : RC := (.seq (.run [⟨(some 6), none, (.a (.const (.int .u32 1))), []⟩, ⟨(some 7), none, (.a (.const (.int .u32 16777619))), []⟩])
  (.seq (.seq (.run [⟨(some 22), none, (.r (.mv (.tmp 0))), []⟩, ⟨(some 23), none, (.r (.lens (.tmp 22))), []⟩, ⟨(some 8), none, (.a (.tmp 23)), []⟩])
  (.block 2 (.loop rc79_3)))
  rc79_4))
def rc79 : RC := (.seq (.run [⟨(some 2), none, (.a (.const (.int .u32 0))), []⟩, ⟨(some 3), none, (.a (.const (.int .u32 0))), []⟩])
  (.seq (.run [⟨(some 4), none, (.a (.const (.int .u32 0))), []⟩])
  (.seq (.seq (.run [⟨(some 5), none, (.a (.const (.int .i64 0))), []⟩])
  (.block 0 (.loop rc79_1)))
  rc79_5)))
def ce79 : List (Nat × List Nat × List Nat) := []
def ro79 : List RO := [(.mv (.tmp 2)), (.mv (.tmp 3))]
theorem ok79 : okFn Tryd.prog 79 39 ce79 = some (rc79, ro79) := by kernel_rfl
/-! unicode/utf8.decodeRuneInStringSlow -/
def rc80_0 : RC := (.seq (.run [⟨(some 99), none, (.r (.mv (.tmp 5))), []⟩, ⟨(some 100), none, (.r (.bin .and (.tmp 99) (.const (.int .u8 7)))), []⟩, ⟨(some 101), none, (.r (.cvi .i32 (.tmp 100))), []⟩, ⟨(some 102), none, (.r (.bin .shl (.tmp 101) (.const (.int .u64 18)))), []⟩, ⟨(some 103), none, (.r (.mv (.tmp 10))), []⟩, ⟨(some 104), none, (.r (.bin .and (.tmp 103) (.const (.int .u8 63)))), []⟩, ⟨(some 105), none, (.r (.cvi .i32 (.tmp 104))), []⟩, ⟨(some 106), none, (.r (.bin .shl (.tmp 105) (.const (.int .u64 12)))), []⟩, ⟨(some 107), none, (.r (.bin .or (.tmp 102) (.tmp 106))), []⟩, ⟨(some 108), none, (.r (.mv (.tmp 11))), []⟩, ⟨(some 109), none, (.r (.bin .and (.tmp 108) (.const (.int .u8 63)))), []⟩, ⟨(some 110), none, (.r (.cvi .i32 (.tmp 109))), []⟩, ⟨(some 111), none, (.r (.bin .shl (.tmp 110) (.const (.int .u64 6)))), []⟩, ⟨(some 112), none, (.r (.bin .or (.tmp 107) (.tmp 111))), []⟩, ⟨(some 113), none, (.r (.mv (.tmp 12))), []⟩, ⟨(some 114), none, (.r (.bin .and (.tmp 113) (.const (.int .u8 63)))), []⟩, ⟨(some 115), none, (.r (.cvi .i32 (.tmp 114))), []⟩, ⟨(some 116), none, (.r (.bin .or (.tmp 112) (.tmp 115))), []⟩, ⟨(some 2), none, (.a (.tmp 116)), []⟩, ⟨(some 3), none, (.a (.const (.int .i64 4))), []⟩])
  .ret)
def rc80_1 : RC := (.seq (.run [⟨(some 91), none, (.r (.mv (.tmp 0))), []⟩, ⟨(some 92), none, (.r (.ixs (.tmp 91) (.const (.int .i64 3)))), []⟩, ⟨(some 12), none, (.a (.tmp 92)), []⟩])
  (.seq (.seq (.run [⟨(some 93), none, (.r (.mv (.tmp 12))), []⟩, ⟨(some 94), none, (.r (.bin .lss (.tmp 93) (.const (.int .u8 128)))), []⟩, ⟨(some 95), none, (.r (.mv (.tmp 94))), []⟩, ⟨(some 96), (some (95, false)), (.r (.mv (.tmp 12))), []⟩, ⟨(some 97), (some (95, false)), (.r (.bin .lss (.const (.int .u8 191)) (.tmp 96))), []⟩, ⟨(some 98), none, (.r (.pick (.tmp 95) (.const (.bool true)) (.tmp 97))), []⟩])
  (.cond (.tmp 98)
  (.seq (.run [⟨(some 2), none, (.a (.const (.int .i32 65533))), []⟩, ⟨(some 3), none, (.a (.const (.int .i64 1))), []⟩])
  .ret)
  .skip))
  rc80_0))
def rc80_2 : RC := (.seq (.seq (.run [⟨(some 76), none, (.r (.mv (.tmp 8))), []⟩, ⟨(some 77), none, (.r (.bin .leq (.tmp 76) (.const (.int .i64 3)))), []⟩])
  (.cond (.tmp 77)
  (.seq (.run [⟨(some 78), none, (.r (.mv (.tmp 5))), []⟩, ⟨(some 79), none, (.r (.bin .and (.tmp 78) (.const (.int .u8 15)))), []⟩, ⟨(some 80), none, (.r (.cvi .i32 (.tmp 79))), []⟩, ⟨(some 81), none, (.r (.bin .shl (.tmp 80) (.const (.int .u64 12)))), []⟩, ⟨(some 82), none, (.r (.mv (.tmp 10))), []⟩, ⟨(some 83), none, (.r (.bin .and (.tmp 82) (.const (.int .u8 63)))), []⟩, ⟨(some 84), none, (.r (.cvi .i32 (.tmp 83))), []⟩, ⟨(some 85), none, (.r (.bin .shl (.tmp 84) (.const (.int .u64 6)))), []⟩, ⟨(some 86), none, (.r (.bin .or (.tmp 81) (.tmp 85))), []⟩, ⟨(some 87), none, (.r (.mv (.tmp 11))), []⟩, ⟨(some 88), none, (.r (.bin .and (.tmp 87) (.const (.int .u8 63)))), []⟩, ⟨(some 89), none, (.r (.cvi .i32 (.tmp 88))), []⟩, ⟨(some 90), none, (.r (.bin .or (.tmp 86) (.tmp 89))), []⟩, ⟨(some 2), none, (.a (.tmp 90)), []⟩, ⟨(some 3), none, (.a (.const (.int .i64 3))), []⟩])
  .ret)
  .skip))
  rc80_1)
def rc80_3 : RC := (.seq (.run [⟨(some 68), none, (.r (.mv (.tmp 0))), []⟩, ⟨(some 69), none, (.r (.ixs (.tmp 68) (.const (.int .i64 2)))), []⟩, ⟨(some 11), none, (.a (.tmp 69)), []⟩])
  (.seq (.seq (.run [⟨(some 70), none, (.r (.mv (.tmp 11))), []⟩, ⟨(some 71), none, (.r (.bin .lss (.tmp 70) (.const (.int .u8 128)))), []⟩, ⟨(some 72), none, (.r (.mv (.tmp 71))), []⟩, ⟨(some 73), (some (72, false)), (.r (.mv (.tmp 11))), []⟩, ⟨(some 74), (some (72, false)), (.r (.bin .lss (.const (.int .u8 191)) (.tmp 73))), []⟩, ⟨(some 75), none, (.r (.pick (.tmp 72) (.const (.bool true)) (.tmp 74))), []⟩])
  (.cond (.tmp 75)
  (.seq (.run [⟨(some 2), none, (.a (.const (.int .i32 65533))), []⟩, ⟨(some 3), none, (.a (.const (.int .i64 1))), []⟩])
  .ret)
  .skip))
  rc80_2))
def rc80_4 : RC := (.seq (.seq (.run [⟨(some 58), none, (.r (.mv (.tmp 8))), []⟩, ⟨(some 59), none, (.r (.bin .leq (.tmp 58) (.const (.int .i64 2)))), []⟩])
  (.cond (.tmp 59)
  (.seq (.run [⟨(some 60), none, (.r (.mv (.tmp 5))), []⟩, ⟨(some 61), none, (.r (.bin .and (.tmp 60) (.const (.int .u8 31)))), []⟩, ⟨(some 62), none, (.r (.cvi .i32 (.tmp 61))), []⟩, ⟨(some 63), none, (.r (.bin .shl (.tmp 62) (.const (.int .u64 6)))), []⟩, ⟨(some 64), none, (.r (.mv (.tmp 10))), []⟩, ⟨(some 65), none, (.r (.bin .and (.tmp 64) (.const (.int .u8 63)))), []⟩, ⟨(some 66), none, (.r (.cvi .i32 (.tmp 65))), []⟩, ⟨(some 67), none, (.r (.bin .or (.tmp 63) (.tmp 66))), []⟩, ⟨(some 2), none, (.a (.tmp 67)), []⟩, ⟨(some 3), none, (.a (.const (.int .i64 2))), []⟩])
  .ret)
  .skip))
  rc80_3)
def rc80_5 : RC := (.seq (.run [⟨(some 46), none, (.r (.mv (.tmp 0))), []⟩, ⟨(some 47), none, (.r (.ixs (.tmp 46) (.const (.int .i64 1)))), []⟩, ⟨(some 10), none, (.a (.tmp 47)), []⟩])
  (.seq (.seq (.run [⟨(some 48), none, (.r (.mv (.tmp 10))), []⟩, ⟨(some 49), none, (.r (.fa 0 (.tmp 9))), []⟩, ⟨(some 50), none, (.r (.ld (.tmp 49))), []⟩, ⟨(some 51), none, (.r (.bin .lss (.tmp 48) (.tmp 50))), []⟩, ⟨(some 52), none, (.r (.mv (.tmp 51))), []⟩, ⟨(some 53), (some (52, false)), (.r (.fa 1 (.tmp 9))), []⟩, ⟨(some 54), (some (52, false)), (.r (.ld (.tmp 53))), []⟩, ⟨(some 55), (some (52, false)), (.r (.mv (.tmp 10))), []⟩, ⟨(some 56), (some (52, false)), (.r (.bin .lss (.tmp 54) (.tmp 55))), []⟩, ⟨(some 57), none, (.r (.pick (.tmp 52) (.const (.bool true)) (.tmp 56))), []⟩])
  (.cond (.tmp 57)
  (.seq (.run [⟨(some 2), none, (.a (.const (.int .i32 65533))), []⟩, ⟨(some 3), none, (.a (.const (.int .i64 1))), []⟩])
  .ret)
  .skip))
  rc80_4))
def rc80_6 : RC := (.seq (.run [⟨(some 36), none, (.r (.mv (.tmp 6))), []⟩, ⟨(some 37), none, (.r (.bin .and (.tmp 36) (.const (.int .u8 7)))), []⟩, ⟨(some 38), none, (.r (.cvi .i64 (.tmp 37))), []⟩, ⟨(some 8), none, (.a (.tmp 38)), []⟩])
  (.seq (.run [⟨(some 39), none, (.r (.mv (.tmp 6))), []⟩, ⟨(some 40), none, (.r (.bin .shr (.tmp 39) (.const (.int .u64 4)))), []⟩, ⟨(some 41), none, (.r (.iaa 16 2 (.global 7) (.tmp 40))), []⟩, ⟨(some 42), none, (.r (.ldn 2 (.tmp 41))), []⟩, ⟨(some 9), none, (.e (.al [(.int .u8 0), (.int .u8 0)] 120)), []⟩, ⟨none, none, (.e (.st 2 (.tmp 9) (.tmp 42))), []⟩])
  (.seq (.seq (.run [⟨(some 43), none, (.r (.mv (.tmp 4))), []⟩, ⟨(some 44), none, (.r (.mv (.tmp 8))), []⟩, ⟨(some 45), none, (.r (.bin .lss (.tmp 43) (.tmp 44))), []⟩])
  (.cond (.tmp 45)
  (.seq (.run [⟨(some 2), none, (.a (.const (.int .i32 65533))), []⟩, ⟨(some 3), none, (.a (.const (.int .i64 1))), []⟩])
  .ret)
  .skip))
  rc80_5)))
def rc80_7 : RC := (.seq (.run [⟨(some 17), none, (.r (.mv (.tmp 0))), []⟩, ⟨(some 18), none, (.r (.ixs (.tmp 17) (.const (.int .i64 0)))), []⟩, ⟨(some 5), none, (.a (.tmp 18)), []⟩])
  (.seq (.run [⟨(some 19), none, (.r (.mv (.tmp 5))), []⟩, ⟨(some 20), none, (.r (.iaa 256 1 (.global 6) (.tmp 19))), []⟩, ⟨(some 21), none, (.r (.ld (.tmp 20))), []⟩, ⟨(some 6), none, (.a (.tmp 21)), []⟩])
  (.seq (.seq (.run [⟨(some 22), none, (.r (.mv (.tmp 6))), []⟩, ⟨(some 23), none, (.r (.bin .geq (.tmp 22) (.const (.int .u8 240)))), []⟩])
  (.cond (.tmp 23)
  (.seq (.run [⟨(some 24), none, (.r (.mv (.tmp 6))), []⟩, ⟨(some 25), none, (.r (.cvi .i32 (.tmp 24))), []⟩, ⟨(some 26), none, (.r (.bin .shl (.tmp 25) (.const (.int .u64 31)))), []⟩, ⟨(some 27), none, (.r (.bin .shr (.tmp 26) (.const (.int .u64 31)))), []⟩, ⟨(some 7), none, (.a (.tmp 27)), []⟩])
  (.seq (.run [⟨(some 28), none, (.r (.mv (.tmp 0))), []⟩, ⟨(some 29), none, (.r (.ixs (.tmp 28) (.const (.int .i64 0)))), []⟩, ⟨(some 30), none, (.r (.cvi .i32 (.tmp 29))), []⟩, ⟨(some 31), none, (.r (.mv (.tmp 7))), []⟩, ⟨(some 32), none, (.r (.bin .andNot (.tmp 30) (.tmp 31))), []⟩, ⟨(some 33), none, (.r (.mv (.tmp 7))), []⟩, ⟨(some 34), none, (.r (.bin .and (.const (.int .i32 65533)) (.tmp 33))), []⟩, ⟨(some 35), none, (.r (.bin .or (.tmp 32) (.tmp 34))), []⟩, ⟨(some 2), none, (.a (.tmp 35)), []⟩, ⟨(some 3), none, (.a (.const (.int .i64 1))), []⟩])
  .ret))
  .skip))
  rc80_6)))
def rc80 : RC := (.seq (.run [⟨(some 2), none, (.a (.const (.int .i32 0))), []⟩, ⟨(some 3), none, (.a (.const (.int .i64 0))), []⟩])
  (.seq (.run [⟨(some 13), none, (.r (.mv (.tmp 0))), []⟩, ⟨(some 14), none, (.r (.lens (.tmp 13))), []⟩, ⟨(some 4), none, (.a (.tmp 14)), []⟩])
  (.seq (.seq (.run [⟨(some 15), none, (.r (.mv (.tmp 4))), []⟩, ⟨(some 16), none, (.r (.bin .lss (.tmp 15) (.const (.int .i64 1)))), []⟩])
  (.cond (.tmp 16)
  (.seq (.run [⟨(some 2), none, (.a (.const (.int .i32 65533))), []⟩, ⟨(some 3), none, (.a (.const (.int .i64 0))), []⟩])
  .ret)
  .skip))
  rc80_7)))
def ce80 : List (Nat × List Nat × List Nat) := []
def ro80 : List RO := [(.mv (.tmp 2)), (.mv (.tmp 3))]
theorem ok80 : okFn Tryd.prog 80 117 ce80 = some (rc80, ro80) := by kernel_rfl
/-! strings.IndexByte -/

def rc81 : RC := (.seq (.run [⟨(some 4), none, (.a (.const (.int .i64 0))), []⟩])
  (.seq (.run [⟨(some 5), none, (.r (.mv (.tmp 0))), []⟩, ⟨(some 6), none, (.r (.mv (.tmp 1))), []⟩, ⟨(some 7), none, (.c (.fn 62 [(.tmp 5), (.tmp 6)])), []⟩, ⟨(some 4), none, (.a (.tmp 7)), []⟩])
  .ret))
def ce81 : List (Nat × List Nat × List Nat) := []
def ro81 : List RO := [(.mv (.tmp 4))]
theorem ok81 : okFn Tryd.prog 81 8 ce81 = some (rc81, ro81) := by kernel_rfl
/-! unicode/utf8.ValidRune -/
def rc82_0 : RC := (.seq (.run [⟨(some 2), none, (.a (.const (.bool false))), []⟩])
  .ret)
def rc82 : RC := (.seq (.run [⟨(some 2), none, (.a (.const (.bool false))), []⟩])
  (.seq (.block 0 (.seq (.run [⟨(some 4), none, (.r (.mv (.tmp 0))), []⟩, ⟨(some 5), none, (.r (.bin .leq (.const (.int .i32 0)) (.tmp 4))), []⟩, ⟨(some 6), none, (.r (.mv (.tmp 5))), []⟩, ⟨(some 7), (some (6, true)), (.r (.mv (.tmp 0))), []⟩, ⟨(some 8), (some (6, true)), (.r (.bin .lss (.tmp 7) (.const (.int .i32 55296)))), []⟩, ⟨(some 9), none, (.r (.pick (.tmp 6) (.tmp 8) (.const (.bool false)))), []⟩, ⟨(some 3), none, (.a (.tmp 9)), []⟩])
  (.cond (.tmp 3)
  (.seq (.run [⟨(some 2), none, (.a (.const (.bool true))), []⟩])
  .ret)
  (.seq (.run [⟨(some 11), none, (.r (.mv (.tmp 0))), []⟩, ⟨(some 12), none, (.r (.bin .lss (.const (.int .i32 57343)) (.tmp 11))), []⟩, ⟨(some 13), none, (.r (.mv (.tmp 12))), []⟩, ⟨(some 14), (some (13, true)), (.r (.mv (.tmp 0))), []⟩, ⟨(some 15), (some (13, true)), (.r (.bin .leq (.tmp 14) (.const (.int .i32 1114111)))), []⟩, ⟨(some 16), none, (.r (.pick (.tmp 13) (.tmp 15) (.const (.bool false)))), []⟩, ⟨(some 10), none, (.a (.tmp 16)), []⟩])
  (.cond (.tmp 10)
  (.seq (.run [⟨(some 2), none, (.a (.const (.bool true))), []⟩])
  .ret)
  .skip)))))
  rc82_0))
def ce82 : List (Nat × List Nat × List Nat) := []
def ro82 : List RO := [(.mv (.tmp 2))]
theorem ok82 : okFn Tryd.prog 82 17 ce82 = some (rc82, ro82) := by kernel_rfl
/-! internal/strconv.lower -/

def rc83 : RC := (.seq (.run [⟨(some 2), none, (.a (.const (.int .u8 0))), []⟩])
  (.seq (.run [⟨(some 3), none, (.r (.mv (.tmp 0))), []⟩, ⟨(some 4), none, (.r (.bin .or (.tmp 3) (.const (.int .u8 32)))), []⟩, ⟨(some 2), none, (.a (.tmp 4)), []⟩])
  .ret))
def ce83 : List (Nat × List Nat × List Nat) := []
def ro83 : List RO := [(.mv (.tmp 2))]
theorem ok83 : okFn Tryd.prog 83 5 ce83 = some (rc83, ro83) := by kernel_rfl
/-! internal/strconv.underscoreOK -/
def rc84_0 : RC := (.seq (.run [⟨(some 3), none, (.a (.const (.int .i32 95))), []⟩])
  (.exit 1))
def rc84_1 : RC := (.seq (.seq (.run [⟨(some 90), none, (.r (.mv (.tmp 3))), []⟩, ⟨(some 91), none, (.r (.bin .eql (.tmp 90) (.const (.int .i32 95)))), []⟩])
  (.cond (.tmp 91)
  (.seq (.run [⟨(some 2), none, (.a (.const (.bool false))), []⟩])
  .ret)
  .skip))
  (.run [⟨(some 3), none, (.a (.const (.int .i32 33))), []⟩]))
def rc84_2 : RC := (.seq (.seq (.run [⟨(some 84), none, (.r (.mv (.tmp 0))), []⟩, ⟨(some 85), none, (.r (.mv (.tmp 4))), []⟩, ⟨(some 86), none, (.r (.ixs (.tmp 84) (.tmp 85))), []⟩, ⟨(some 87), none, (.r (.bin .eql (.tmp 86) (.const (.int .u8 95)))), []⟩])
  (.cond (.tmp 87)
  (.seq (.seq (.run [⟨(some 88), none, (.r (.mv (.tmp 3))), []⟩, ⟨(some 89), none, (.r (.bin .neq (.tmp 88) (.const (.int .i32 48)))), []⟩])
  (.cond (.tmp 89)
  (.seq (.run [⟨(some 2), none, (.a (.const (.bool false))), []⟩])
  .ret)
  .skip))
  rc84_0)
  .skip))
  rc84_1)
def rc84_3 : RC := (.seq (.block 1 (.seq (.seq (.run [⟨(some 57), none, (.r (.mv (.tmp 0))), []⟩, ⟨(some 58), none, (.r (.mv (.tmp 4))), []⟩, ⟨(some 59), none, (.r (.ixs (.tmp 57) (.tmp 58))), []⟩, ⟨(some 60), none, (.r (.bin .leq (.const (.int .u8 48)) (.tmp 59))), []⟩, ⟨(some 61), none, (.r (.mv (.tmp 60))), []⟩, ⟨(some 62), (some (61, true)), (.r (.mv (.tmp 0))), []⟩, ⟨(some 63), (some (61, true)), (.r (.mv (.tmp 4))), []⟩, ⟨(some 64), (some (61, true)), (.r (.ixs (.tmp 62) (.tmp 63))), []⟩, ⟨(some 65), (some (61, true)), (.r (.bin .leq (.tmp 64) (.const (.int .u8 57)))), []⟩, ⟨(some 66), none, (.r (.pick (.tmp 61) (.tmp 65) (.const (.bool false)))), []⟩, ⟨(some 67), none, (.r (.mv (.tmp 66))), []⟩, ⟨(some 68), (some (67, false)), (.r (.mv (.tmp 5))), []⟩, ⟨(some 69), (some (67, false)), (.r (.mv (.tmp 68))), []⟩, ⟨(some 70), (some (69, true)), (.r (.mv (.tmp 0))), []⟩, ⟨(some 71), (some (69, true)), (.r (.mv (.tmp 4))), []⟩, ⟨(some 72), (some (69, true)), (.r (.ixs (.tmp 70) (.tmp 71))), []⟩, ⟨(some 73), (some (69, true)), (.c (.fn 83 [(.tmp 72)])), []⟩, ⟨(some 74), (some (69, true)), (.r (.bin .leq (.const (.int .u8 97)) (.tmp 73))), []⟩, ⟨(some 75), (some (67, false)), (.r (.pick (.tmp 69) (.tmp 74) (.const (.bool false)))), []⟩, ⟨(some 76), (some (67, false)), (.r (.mv (.tmp 75))), []⟩, ⟨(some 77), (some (76, true)), (.r (.mv (.tmp 0))), []⟩, ⟨(some 78), (some (76, true)), (.r (.mv (.tmp 4))), []⟩, ⟨(some 79), (some (76, true)), (.r (.ixs (.tmp 77) (.tmp 78))), []⟩, ⟨(some 80), (some (76, true)), (.c (.fn 83 [(.tmp 79)])), []⟩, ⟨(some 81), (some (76, true)), (.r (.bin .leq (.tmp 80) (.const (.int .u8 102)))), []⟩, ⟨(some 82), (some (67, false)), (.r (.pick (.tmp 76) (.tmp 81) (.const (.bool false)))), []⟩, ⟨(some 83), none, (.r (.pick (.tmp 67) (.const (.bool true)) (.tmp 82))), []⟩])
  (.cond (.tmp 83)
  (.seq (.run [⟨(some 3), none, (.a (.const (.int .i32 48))), []⟩])
  (.exit 1))
  .skip))
  rc84_2))
  (.run [⟨(some 55), none, (.r (.mv (.tmp 4))), []⟩, ⟨(some 56), none, (.r (.bin .add (.tmp 55) (.const (.int .i64 1)))), []⟩, ⟨(some 4), none, (.a (.tmp 56)), []⟩]))
def rc84_4 : RC := (.seq (.seq (.run [⟨(some 51), none, (.r (.mv (.tmp 4))), []⟩, ⟨(some 52), none, (.r (.mv (.tmp 0))), []⟩, ⟨(some 53), none, (.r (.lens (.tmp 52))), []⟩, ⟨(some 54), none, (.r (.bin .lss (.tmp 51) (.tmp 53))), []⟩])
  (.cond (.tmp 54)
  .skip
  (.exit 0)))
  rc84_3)
def rc84_5 : RC := (.seq (.run [⟨(some 92), none, (.r (.mv (.tmp 3))), []⟩, ⟨(some 93), none, (.r (.bin .neq (.tmp 92) (.const (.int .i32 95)))), []⟩, ⟨(some 2), none, (.a (.tmp 93)), []⟩])
  .ret)
def rc84_6 : RC := (.seq (.block 0 (.loop rc84_4))
  rc84_5)
def rc84_7 : RC := (.seq (.run [⟨(some 5), none, (.a (.const (.bool false))), []⟩])
  (.seq (.seq (.run [⟨(some 21), none, (.r (.mv (.tmp 0))), []⟩, ⟨(some 22), none, (.r (.lens (.tmp 21))), []⟩, ⟨(some 23), none, (.r (.bin .geq (.tmp 22) (.const (.int .i64 2)))), []⟩, ⟨(some 24), none, (.r (.mv (.tmp 23))), []⟩, ⟨(some 25), (some (24, true)), (.r (.mv (.tmp 0))), []⟩, ⟨(some 26), (some (24, true)), (.r (.ixs (.tmp 25) (.const (.int .i64 0)))), []⟩, ⟨(some 27), (some (24, true)), (.r (.bin .eql (.tmp 26) (.const (.int .u8 48)))), []⟩, ⟨(some 28), none, (.r (.pick (.tmp 24) (.tmp 27) (.const (.bool false)))), []⟩, ⟨(some 29), none, (.r (.mv (.tmp 28))), []⟩, ⟨(some 30), (some (29, true)), (.r (.mv (.tmp 0))), []⟩, ⟨(some 31), (some (29, true)), (.r (.ixs (.tmp 30) (.const (.int .i64 1)))), []⟩, ⟨(some 32), (some (29, true)), (.c (.fn 83 [(.tmp 31)])), []⟩, ⟨(some 33), (some (29, true)), (.r (.bin .eql (.tmp 32) (.const (.int .u8 98)))), []⟩, ⟨(some 34), (some (29, true)), (.r (.mv (.tmp 33))), []⟩, ⟨(some 35), (some (34, false)), (.r (.mv (.tmp 0))), []⟩, ⟨(some 36), (some (34, false)), (.r (.ixs (.tmp 35) (.const (.int .i64 1)))), []⟩, ⟨(some 37), (some (34, false)), (.c (.fn 83 [(.tmp 36)])), []⟩, ⟨(some 38), (some (34, false)), (.r (.bin .eql (.tmp 37) (.const (.int .u8 111)))), []⟩, ⟨(some 39), (some (29, true)), (.r (.pick (.tmp 34) (.const (.bool true)) (.tmp 38))), []⟩, ⟨(some 40), (some (29, true)), (.r (.mv (.tmp 39))), []⟩, ⟨(some 41), (some (40, false)), (.r (.mv (.tmp 0))), []⟩, ⟨(some 42), (some (40, false)), (.r (.ixs (.tmp 41) (.const (.int .i64 1)))), []⟩, ⟨(some 43), (some (40, false)), (.c (.fn 83 [(.tmp 42)])), []⟩, ⟨(some 44), (some (40, false)), (.r (.bin .eql (.tmp 43) (.const (.int .u8 120)))), []⟩, ⟨(some 45), (some (29, true)), (.r (.pick (.tmp 40) (.const (.bool true)) (.tmp 44))), []⟩, ⟨(some 46), none, (.r (.pick (.tmp 29) (.tmp 45) (.const (.bool false)))), []⟩])
  (.cond (.tmp 46)
  (.seq (.run [⟨(some 4), none, (.a (.const (.int .i64 2))), []⟩])
  (.seq (.run [⟨(some 3), none, (.a (.const (.int .i32 48))), []⟩])
  (.run [⟨(some 47), none, (.r (.mv (.tmp 0))), []⟩, ⟨(some 48), none, (.r (.ixs (.tmp 47) (.const (.int .i64 1)))), []⟩, ⟨(some 49), none, (.c (.fn 83 [(.tmp 48)])), []⟩, ⟨(some 50), none, (.r (.bin .eql (.tmp 49) (.const (.int .u8 120)))), []⟩, ⟨(some 5), none, (.a (.tmp 50)), []⟩])))
  .skip))
  rc84_6))
def rc84 : RC := (.seq (.run [⟨(some 2), none, (.a (.const (.bool false))), []⟩])
  (.seq (.run [⟨(some 3), none, (.a (.const (.int .i32 94))), []⟩])
  (.seq (.run [⟨(some 4), none, (.a (.const (.int .i64 0))), []⟩])
  (.seq (.seq (.run [⟨(some 6), none, (.r (.mv (.tmp 0))), []⟩, ⟨(some 7), none, (.r (.lens (.tmp 6))), []⟩, ⟨(some 8), none, (.r (.bin .geq (.tmp 7) (.const (.int .i64 1)))), []⟩, ⟨(some 9), none, (.r (.mv (.tmp 8))), []⟩, ⟨(some 10), (some (9, true)), (.r (.mv (.tmp 0))), []⟩, ⟨(some 11), (some (9, true)), (.r (.ixs (.tmp 10) (.const (.int .i64 0)))), []⟩, ⟨(some 12), (some (9, true)), (.r (.bin .eql (.tmp 11) (.const (.int .u8 45)))), []⟩, ⟨(some 13), (some (9, true)), (.r (.mv (.tmp 12))), []⟩, ⟨(some 14), (some (13, false)), (.r (.mv (.tmp 0))), []⟩, ⟨(some 15), (some (13, false)), (.r (.ixs (.tmp 14) (.const (.int .i64 0)))), []⟩, ⟨(some 16), (some (13, false)), (.r (.bin .eql (.tmp 15) (.const (.int .u8 43)))), []⟩, ⟨(some 17), (some (9, true)), (.r (.pick (.tmp 13) (.const (.bool true)) (.tmp 16))), []⟩, ⟨(some 18), none, (.r (.pick (.tmp 9) (.tmp 17) (.const (.bool false)))), []⟩])
  (.cond (.tmp 18)
  (.run [⟨(some 19), none, (.r (.mv (.tmp 0))), []⟩, ⟨(some 20), none, (.r (.sls (.tmp 19) (some (.const (.int .i64 1))) none)), []⟩, ⟨(some 0), none, (.a (.tmp 20)), []⟩])
  .skip))
  rc84_7))))
def ce84 : List (Nat × List Nat × List Nat) := []
def ro84 : List RO := [(.mv (.tmp 2))]
theorem ok84 : okFn Tryd.prog 84 94 ce84 = some (rc84, ro84) := by kernel_rfl
/-! internal/stringslite.Clone -/
def rc85_0 : RC := (.seq (.run [⟨(some 7), none, (.r (.mv (.tmp 0))), []⟩, ⟨(some 8), none, (.r (.lens (.tmp 7))), []⟩, ⟨(some 9), none, (.e (.mks 5 1 (.int .u8 0) (.tmp 8) (.tmp 8))), []⟩, ⟨(some 3), none, (.a (.tmp 9)), []⟩])
  (.seq (.run [⟨(some 10), none, (.r (.mv (.tmp 3))), []⟩, ⟨(some 11), none, (.r (.mv (.tmp 0))), []⟩, ⟨(some 12), none, (.e (.cpy 1 (.tmp 10) (.tmp 11))), []⟩])
  (.seq (.run [⟨(some 13), none, (.r (.mv (.tmp 3))), []⟩, ⟨(some 14), none, (.r (.ia 1 (.tmp 13) (.const (.int .i64 0)))), []⟩, ⟨(some 15), none, (.r (.mv (.tmp 3))), []⟩, ⟨(some 16), none, (.r (.lenl (.tmp 15))), []⟩, ⟨(some 17), none, (.e (.ust 5 (.tmp 14) (.tmp 16))), []⟩, ⟨(some 2), none, (.a (.tmp 17)), []⟩])
  .ret)))
def rc85 : RC := (.seq (.run [⟨(some 2), none, (.a (.const (.string ⟨#[]⟩))), []⟩])
  (.seq (.seq (.run [⟨(some 4), none, (.r (.mv (.tmp 0))), []⟩, ⟨(some 5), none, (.r (.lens (.tmp 4))), []⟩, ⟨(some 6), none, (.r (.bin .eql (.tmp 5) (.const (.int .i64 0)))), []⟩])
  (.cond (.tmp 6)
  (.seq (.run [⟨(some 2), none, (.a (.const (.string ⟨#[]⟩))), []⟩])
  .ret)
  .skip))
  rc85_0))
def ce85 : List (Nat × List Nat × List Nat) := []
def ro85 : List RO := [(.mv (.tmp 2))]
theorem ok85 : okFn Tryd.prog 85 18 ce85 = some (rc85, ro85) := by kernel_rfl
/-! errors.New -/

def rc86 : RC := (.seq (.run [⟨(some 2), none, (.a (.const .nilIface)), []⟩])
  (.seq (.run [⟨(some 3), none, (.r (.mv (.tmp 0))), []⟩, ⟨(some 4), none, (.r (.bld [(.string ⟨#[]⟩)] [(0, 1, (.tmp 3))])), []⟩, ⟨(some 5), none, (.e (.bx 124 (.tmp 4))), []⟩, ⟨(some 6), none, (.r (.mki 122 (.tmp 5))), []⟩, ⟨(some 2), none, (.a (.tmp 6)), []⟩])
  .ret))
def ce86 : List (Nat × List Nat × List Nat) := []
def ro86 : List RO := [(.mv (.tmp 2))]
theorem ok86 : okFn Tryd.prog 86 7 ce86 = some (rc86, ro86) := by kernel_rfl
/-! gosem.cut.vars -/

def rc116 : RC := (.seq (.run [⟨(some 0), none, (.r (.bld [(.int .u8 0), (.int .u8 0), (.int .u8 0), (.int .u8 0), (.int .u8 0), (.int .u8 0), (.int .u8 0), (.int .u8 0), (.int .u8 0), (.int .u8 0), (.int .u8 0), (.int .u8 0), (.int .u8 0), (.int .u8 0), (.int .u8 0), (.int .u8 0), (.int .u8 0), (.int .u8 0), (.int .u8 0), (.int .u8 0), (.int .u8 0), (.int .u8 0), (.int .u8 0), (.int .u8 0), (.int .u8 0), (.int .u8 0), (.int .u8 0), (.int .u8 0), (.int .u8 0), (.int .u8 0), (.int .u8 0), (.int .u8 0)] [(0, 1, (.const (.int .u8 0))), (1, 1, (.const (.int .u8 1))), (2, 1, (.const (.int .u8 28))), (3, 1, (.const (.int .u8 2))), (4, 1, (.const (.int .u8 29))), (5, 1, (.const (.int .u8 14))), (6, 1, (.const (.int .u8 24))), (7, 1, (.const (.int .u8 3))), (8, 1, (.const (.int .u8 30))), (9, 1, (.const (.int .u8 22))), (10, 1, (.const (.int .u8 20))), (11, 1, (.const (.int .u8 15))), (12, 1, (.const (.int .u8 25))), (13, 1, (.const (.int .u8 17))), (14, 1, (.const (.int .u8 4))), (15, 1, (.const (.int .u8 8))), (16, 1, (.const (.int .u8 31))), (17, 1, (.const (.int .u8 27))), (18, 1, (.const (.int .u8 13))), (19, 1, (.const (.int .u8 23))), (20, 1, (.const (.int .u8 21))), (21, 1, (.const (.int .u8 19))), (22, 1, (.const (.int .u8 16))), (23, 1, (.const (.int .u8 7))), (24, 1, (.const (.int .u8 26))), (25, 1, (.const (.int .u8 12))), (26, 1, (.const (.int .u8 18))), (27, 1, (.const (.int .u8 6))), (28, 1, (.const (.int .u8 11))), (29, 1, (.const (.int .u8 5))), (30, 1, (.const (.int .u8 10))), (31, 1, (.const (.int .u8 9)))])), []⟩, ⟨none, none, (.e (.st 32 (.global 4) (.tmp 0))), []⟩])
  (.seq (.run [⟨(some 1), none, (.r (.bld [(.int .u8 0), (.int .u8 0), (.int .u8 0), (.int .u8 0), (.int .u8 0), (.int .u8 0), (.int .u8 0), (.int .u8 0), (.int .u8 0), (.int .u8 0), (.int .u8 0), (.int .u8 0), (.int .u8 0), (.int .u8 0), (.int .u8 0), (.int .u8 0), (.int .u8 0), (.int .u8 0), (.int .u8 0), (.int .u8 0), (.int .u8 0), (.int .u8 0), (.int .u8 0), (.int .u8 0), (.int .u8 0), (.int .u8 0), (.int .u8 0), (.int .u8 0), (.int .u8 0), (.int .u8 0), (.int .u8 0), (.int .u8 0), (.int .u8 0), (.int .u8 0), (.int .u8 0), (.int .u8 0), (.int .u8 0), (.int .u8 0), (.int .u8 0), (.int .u8 0), (.int .u8 0), (.int .u8 0), (.int .u8 0), (.int .u8 0), (.int .u8 0), (.int .u8 0), (.int .u8 0), (.int .u8 0), (.int .u8 0), (.int .u8 0), (.int .u8 0), (.int .u8 0), (.int .u8 0), (.int .u8 0), (.int .u8 0), (.int .u8 0), (.int .u8 0), (.int .u8 0), (.int .u8 0), (.int .u8 0), (.int .u8 0), (.int .u8 0), (.int .u8 0), (.int .u8 0)] [(0, 1, (.const (.int .u8 0))), (1, 1, (.const (.int .u8 1))), (2, 1, (.const (.int .u8 56))), (3, 1, (.const (.int .u8 2))), (4, 1, (.const (.int .u8 57))), (5, 1, (.const (.int .u8 49))), (6, 1, (.const (.int .u8 28))), (7, 1, (.const (.int .u8 3))), (8, 1, (.const (.int .u8 61))), (9, 1, (.const (.int .u8 58))), (10, 1, (.const (.int .u8 42))), (11, 1, (.const (.int .u8 50))), (12, 1, (.const (.int .u8 38))), (13, 1, (.const (.int .u8 29))), (14, 1, (.const (.int .u8 17))), (15, 1, (.const (.int .u8 4))), (16, 1, (.const (.int .u8 62))), (17, 1, (.const (.int .u8 47))), (18, 1, (.const (.int .u8 59))), (19, 1, (.const (.int .u8 36))), (20, 1, (.const (.int .u8 45))), (21, 1, (.const (.int .u8 43))), (22, 1, (.const (.int .u8 51))), (23, 1, (.const (.int .u8 22))), (24, 1, (.const (.int .u8 53))), (25, 1, (.const (.int .u8 39))), (26, 1, (.const (.int .u8 33))), (27, 1, (.const (.int .u8 30))), (28, 1, (.const (.int .u8 24))), (29, 1, (.const (.int .u8 18))), (30, 1, (.const (.int .u8 12))), (31, 1, (.const (.int .u8 5))), (32, 1, (.const (.int .u8 63))), (33, 1, (.const (.int .u8 55))), (34, 1, (.const (.int .u8 48))), (35, 1, (.const (.int .u8 27))), (36, 1, (.const (.int .u8 60))), (37, 1, (.const (.int .u8 41))), (38, 1, (.const (.int .u8 37))), (39, 1, (.const (.int .u8 16))), (40, 1, (.const (.int .u8 46))), (41, 1, (.const (.int .u8 35))), (42, 1, (.const (.int .u8 44))), (43, 1, (.const (.int .u8 21))), (44, 1, (.const (.int .u8 52))), (45, 1, (.const (.int .u8 32))), (46, 1, (.const (.int .u8 23))), (47, 1, (.const (.int .u8 11))), (48, 1, (.const (.int .u8 54))), (49, 1, (.const (.int .u8 26))), (50, 1, (.const (.int .u8 40))), (51, 1, (.const (.int .u8 15))), (52, 1, (.const (.int .u8 34))), (53, 1, (.const (.int .u8 20))), (54, 1, (.const (.int .u8 31))), (55, 1, (.const (.int .u8 10))), (56, 1, (.const (.int .u8 25))), (57, 1, (.const (.int .u8 14))), (58, 1, (.const (.int .u8 19))), (59, 1, (.const (.int .u8 9))), (60, 1, (.const (.int .u8 13))), (61, 1, (.const (.int .u8 8))), (62, 1, (.const (.int .u8 7))), (63, 1, (.const (.int .u8 6)))])), []⟩, ⟨none, none, (.e (.st 64 (.global 5) (.tmp 1))), []⟩])
  (.seq (.run [⟨(some 2), none, (.r (.bld [(.int .u64 0), (.int .u64 0), (.int .u64 0), (.int .u64 0), (.int .u64 0), (.int .u64 0), (.int .u64 0), (.int .u64 0), (.int .u64 0), (.int .u64 0), (.int .u64 0), (.int .u64 0), (.int .u64 0), (.int .u64 0), (.int .u64 0), (.int .u64 0), (.int .u64 0), (.int .u64 0), (.int .u64 0), (.int .u64 0)] [(0, 1, (.const (.int .u64 1))), (1, 1, (.const (.int .u64 10))), (2, 1, (.const (.int .u64 100))), (3, 1, (.const (.int .u64 1000))), (4, 1, (.const (.int .u64 10000))), (5, 1, (.const (.int .u64 100000))), (6, 1, (.const (.int .u64 1000000))), (7, 1, (.const (.int .u64 10000000))), (8, 1, (.const (.int .u64 100000000))), (9, 1, (.const (.int .u64 1000000000))), (10, 1, (.const (.int .u64 10000000000))), (11, 1, (.const (.int .u64 100000000000))), (12, 1, (.const (.int .u64 1000000000000))), (13, 1, (.const (.int .u64 10000000000000))), (14, 1, (.const (.int .u64 100000000000000))), (15, 1, (.const (.int .u64 1000000000000000))), (16, 1, (.const (.int .u64 10000000000000000))), (17, 1, (.const (.int .u64 100000000000000000))), (18, 1, (.const (.int .u64 1000000000000000000))), (19, 1, (.const (.int .u64 10000000000000000000)))])), []⟩, ⟨none, none, (.e (.st 20 (.global 0) (.tmp 2))), []⟩])
  (.seq (.run [⟨(some 3), none, (.r (.bld [(.int .u8 0), (.int .u8 0)] [(0, 1, (.const (.int .u8 128))), (1, 1, (.const (.int .u8 191)))])), []⟩, ⟨(some 4), none, (.r (.bld [(.int .u8 0), (.int .u8 0)] [(0, 1, (.const (.int .u8 160))), (1, 1, (.const (.int .u8 191)))])), []⟩, ⟨(some 5), none, (.r (.bld [(.int .u8 0), (.int .u8 0)] [(0, 1, (.const (.int .u8 128))), (1, 1, (.const (.int .u8 159)))])), []⟩, ⟨(some 6), none, (.r (.bld [(.int .u8 0), (.int .u8 0)] [(0, 1, (.const (.int .u8 144))), (1, 1, (.const (.int .u8 191)))])), []⟩, ⟨(some 7), none, (.r (.bld [(.int .u8 0), (.int .u8 0)] [(0, 1, (.const (.int .u8 128))), (1, 1, (.const (.int .u8 143)))])), []⟩, ⟨(some 8), none, (.r (.bld [(.int .u8 0), (.int .u8 0), (.int .u8 0), (.int .u8 0), (.int .u8 0), (.int .u8 0), (.int .u8 0), (.int .u8 0), (.int .u8 0), (.int .u8 0), (.int .u8 0), (.int .u8 0), (.int .u8 0), (.int .u8 0), (.int .u8 0), (.int .u8 0), (.int .u8 0), (.int .u8 0), (.int .u8 0), (.int .u8 0), (.int .u8 0), (.int .u8 0), (.int .u8 0), (.int .u8 0), (.int .u8 0), (.int .u8 0), (.int .u8 0), (.int .u8 0), (.int .u8 0), (.int .u8 0), (.int .u8 0), (.int .u8 0)] [(0, 2, (.tmp 3)), (2, 2, (.tmp 4)), (4, 2, (.tmp 5)), (6, 2, (.tmp 6)), (8, 2, (.tmp 7))])), []⟩, ⟨none, none, (.e (.st 32 (.global 7) (.tmp 8))), []⟩])
  (.seq (.run [⟨(some 9), none, (.c (.fn 86 [(.const (.string ⟨#[118, 97, 108, 117, 101, 32, 111, 117, 116, 32, 111, 102, 32, 114, 97, 110, 103, 101]⟩))])), []⟩, ⟨none, none, (.e (.st 1 (.global 3) (.tmp 9))), []⟩])
  (.run [⟨(some 10), none, (.c (.fn 86 [(.const (.string ⟨#[105, 110, 118, 97, 108, 105, 100, 32, 115, 121, 110, 116, 97, 120]⟩))])), []⟩, ⟨none, none, (.e (.st 1 (.global 2) (.tmp 10))), []⟩]))))))
def ce116 : List (Nat × List Nat × List Nat) := []
def ro116 : List RO := []
theorem ok116 : okFn Tryd.prog 116 11 ce116 = some (rc116, ro116) := by kernel_rfl
end Go.Proofs.YtkpjbpfemkkheaaDoor.Ab
