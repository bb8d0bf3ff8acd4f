/- The resolved codes of the functions that are walked, and that the program has them. -/
import Derived.Test.YtebgffkiahmhfaaAb17
import Derived.Test.YtebgffkiahmhfaaProg
import Derived.KernelRfl
set_option maxHeartbeats 4000000
namespace Go.Proofs.Ytebgffkiahmhfaa.Ab
open Go Go.RowKit
/-! lifeline/lifelinelaw22.WirePass -/
def rc3_0 : RC := (.seq (.seq (.run [⟨(some 55), none, (.r (.fa 0 (.tmp 13))), []⟩, ⟨(some 56), none, (.r (.ld (.tmp 55))), []⟩, ⟨(some 57), none, (.r (.not (.tmp 56))), []⟩])
  (.cond (.tmp 57)
  (.seq (.run [⟨(some 58), none, (.r (.mv (.tmp 10))), []⟩, ⟨(some 59), none, (.r (.mv (.tmp 12))), []⟩, ⟨(some 60), none, (.r (.fa 1 (.tmp 13))), []⟩, ⟨(some 61), none, (.r (.ld (.tmp 60))), []⟩, ⟨(some 62), none, (.r (.bin .xor (.tmp 59) (.tmp 61))), []⟩, ⟨(some 63), none, (.e (.bsl 5 1 1 [(.int .u8 0)] [(0, 1, (.tmp 62))])), []⟩, ⟨(some 64), none, (.r (.b2s (.tmp 63))), []⟩, ⟨(some 65), none, (.r (.bin .add (.tmp 58) (.tmp 64))), []⟩, ⟨(some 10), none, (.a (.tmp 65)), []⟩])
  (.run [⟨(some 66), none, (.r (.mv (.tmp 7))), []⟩, ⟨(some 67), none, (.r (.mv (.tmp 12))), []⟩, ⟨(some 68), none, (.r (.fa 1 (.tmp 13))), []⟩, ⟨(some 69), none, (.r (.ld (.tmp 68))), []⟩, ⟨(some 70), none, (.r (.bin .xor (.tmp 67) (.tmp 69))), []⟩, ⟨(some 71), none, (.r (.mv (.tmp 6))), []⟩, ⟨(some 72), none, (.r (.fa 1 (.tmp 13))), []⟩, ⟨(some 73), none, (.r (.ld (.tmp 72))), []⟩, ⟨(some 74), none, (.r (.bin .eql (.tmp 73) (.const (.int .u8 0)))), []⟩, ⟨(some 75), none, (.r (.bld [(.int .u8 0), (.int .i64 0), (.bool false)] [(0, 1, (.tmp 70)), (1, 1, (.tmp 71)), (2, 1, (.tmp 74))])), []⟩, ⟨(some 76), none, (.e (.bsl 32 3 1 [(.int .u8 0), (.int .i64 0), (.bool false)] [(0, 3, (.tmp 75))])), []⟩, ⟨(some 77), none, (.e (.app 32 3 24 (.tmp 66) (.tmp 76))), []⟩, ⟨(some 7), none, (.a (.tmp 77)), []⟩]))
  .skip))
  (.run [⟨(some 78), none, (.r (.mv (.tmp 6))), []⟩, ⟨(some 79), none, (.r (.bin .add (.tmp 78) (.const (.int .i64 1)))), []⟩, ⟨(some 6), none, (.a (.tmp 79)), []⟩]))
def rc3_1 : RC := (.seq (.seq (.run [⟨(some 41), none, (.r (.fa 2 (.tmp 13))), []⟩, ⟨(some 42), none, (.r (.ld (.tmp 41))), []⟩])
  (.cond (.tmp 42)
  (.seq (.run [⟨(some 43), none, (.r (.mv (.tmp 10))), []⟩, ⟨(some 44), none, (.r (.fa 3 (.tmp 13))), []⟩, ⟨(some 45), none, (.r (.ld (.tmp 44))), []⟩, ⟨(some 46), none, (.e (.bsl 5 1 1 [(.int .u8 0)] [(0, 1, (.tmp 45))])), []⟩, ⟨(some 47), none, (.r (.b2s (.tmp 46))), []⟩, ⟨(some 48), none, (.r (.bin .add (.tmp 43) (.tmp 47))), []⟩, ⟨(some 10), none, (.a (.tmp 48)), []⟩])
  (.run [⟨(some 49), none, (.r (.mv (.tmp 7))), []⟩, ⟨(some 50), none, (.r (.fa 3 (.tmp 13))), []⟩, ⟨(some 51), none, (.r (.ld (.tmp 50))), []⟩, ⟨(some 52), none, (.r (.bld [(.int .u8 0), (.int .i64 0), (.bool false)] [(0, 1, (.tmp 51)), (1, 1, (.const (.int .i64 (-1))))])), []⟩, ⟨(some 53), none, (.e (.bsl 32 3 1 [(.int .u8 0), (.int .i64 0), (.bool false)] [(0, 3, (.tmp 52))])), []⟩, ⟨(some 54), none, (.e (.app 32 3 24 (.tmp 49) (.tmp 53))), []⟩, ⟨(some 7), none, (.a (.tmp 54)), []⟩]))
  .skip))
  rc3_0)
def rc3_2 : RC := (.seq (.block 3 (.seq (.run [⟨(some 31), none, (.r (.ia 1 (.tmp 27) (.tmp 29))), []⟩, ⟨(some 32), none, (.r (.ld (.tmp 31))), []⟩, ⟨(some 12), none, (.a (.tmp 32)), []⟩])
  (.seq (.run [⟨(some 13), none, (.e (.al [(.bool false), (.int .u8 0), (.bool false), (.int .u8 0)] 30)), []⟩])
  (.seq (.seq (.run [⟨(some 33), none, (.r (.mv (.tmp 6))), []⟩, ⟨(some 34), none, (.r (.mv (.tmp 0))), []⟩, ⟨(some 35), none, (.r (.lenl (.tmp 34))), []⟩, ⟨(some 36), none, (.r (.bin .lss (.tmp 33) (.tmp 35))), []⟩])
  (.cond (.tmp 36)
  (.run [⟨(some 37), none, (.r (.mv (.tmp 0))), []⟩, ⟨(some 38), none, (.r (.mv (.tmp 6))), []⟩, ⟨(some 39), none, (.r (.ia 4 (.tmp 37) (.tmp 38))), []⟩, ⟨(some 40), none, (.r (.ldn 4 (.tmp 39))), []⟩, ⟨none, none, (.e (.st 4 (.tmp 13) (.tmp 40))), []⟩])
  .skip))
  rc3_1))))
  (.run [⟨(some 80), none, (.r (.bin .add (.tmp 29) (.const (.int .i64 1)))), []⟩, ⟨(some 29), none, (.r (.mv (.tmp 80))), []⟩]))
def rc3_3 : RC := (.seq (.run [⟨(some 30), none, (.r (.bin .lss (.tmp 29) (.tmp 28))), []⟩])
  (.seq (.cond (.tmp 30)
  .skip
  (.exit 2))
  rc3_2))
def rc3_4 : RC := (.seq (.run [⟨(some 81), none, (.r (.mv (.tmp 5))), []⟩, ⟨(some 82), none, (.r (.mv (.tmp 9))), []⟩, ⟨(some 83), none, (.c (.fn 11 [(.tmp 81), (.tmp 82)])), []⟩, ⟨(some 84), none, (.r (.b2s (.tmp 83))), []⟩, ⟨(some 85), none, (.r (.mv (.tmp 10))), []⟩, ⟨(some 86), none, (.r (.bin .neq (.tmp 84) (.tmp 85))), []⟩, ⟨(some 87), none, (.r (.mv (.tmp 86))), []⟩, ⟨(some 88), (some (87, false)), (.r (.mv (.tmp 5))), []⟩, ⟨(some 89), (some (87, false)), (.c (.fn 12 [(.tmp 88)])), []⟩, ⟨(some 90), (some (87, false)), (.r (.mv (.tmp 6))), []⟩, ⟨(some 91), (some (87, false)), (.r (.bin .neq (.tmp 89) (.tmp 90))), []⟩, ⟨(some 92), none, (.r (.pick (.tmp 87) (.const (.bool true)) (.tmp 91))), []⟩])
  (.cond (.tmp 92)
  (.seq (.run [⟨(some 4), none, (.a (.const (.bool false))), []⟩])
  .ret)
  .skip))
def rc3_5 : RC := (.seq (.block 1 (.seq (.run [⟨(some 25), none, (.r (.ia 1 (.tmp 21) (.tmp 23))), []⟩, ⟨(some 26), none, (.r (.ld (.tmp 25))), []⟩, ⟨(some 9), none, (.a (.tmp 26)), []⟩])
  (.seq (.run [⟨(some 10), none, (.a (.const (.string ⟨#[]⟩))), []⟩])
  (.seq (.seq (.run [⟨(some 27), none, (.r (.mv (.tmp 9))), []⟩, ⟨(some 28), none, (.r (.lenl (.tmp 27))), []⟩, ⟨(some 29), none, (.r (.mv (.const (.int .i64 0)))), []⟩])
  (.block 2 (.loop rc3_3)))
  rc3_4))))
  (.run [⟨(some 93), none, (.r (.bin .add (.tmp 23) (.const (.int .i64 1)))), []⟩, ⟨(some 23), none, (.r (.mv (.tmp 93))), []⟩]))
def rc3_6 : RC := (.seq (.run [⟨(some 24), none, (.r (.bin .lss (.tmp 23) (.tmp 22))), []⟩])
  (.seq (.cond (.tmp 24)
  .skip
  (.exit 0))
  rc3_5))
def rc3_7 : RC := (.seq (.block 5 (.seq (.run [⟨(some 109), none, (.r (.mv (.tmp 107))), []⟩, ⟨(some 16), none, (.a (.tmp 109)), []⟩])
  (.seq (.seq (.run [⟨(some 110), none, (.r (.mv (.tmp 14))), []⟩, ⟨(some 111), none, (.r (.mv (.tmp 16))), []⟩, ⟨(some 112), none, (.r (.ia 3 (.tmp 110) (.tmp 111))), []⟩, ⟨(some 113), none, (.r (.ldn 3 (.tmp 112))), []⟩, ⟨(some 114), none, (.r (.mv (.tmp 7))), []⟩, ⟨(some 115), none, (.r (.mv (.tmp 16))), []⟩, ⟨(some 116), none, (.r (.ia 3 (.tmp 114) (.tmp 115))), []⟩, ⟨(some 117), none, (.r (.ldn 3 (.tmp 116))), []⟩, ⟨(some 118), none, (.r (.eq true (.recd [(0, 0, .int), (1, 0, .int), (2, 0, .bool)]) (.tmp 113) (.tmp 117))), []⟩])
  (.cond (.tmp 118)
  (.seq (.run [⟨(some 4), none, (.a (.const (.bool false))), []⟩])
  .ret)
  .skip))
  (.run [⟨(some 119), none, (.r (.mv (.tmp 15))), []⟩, ⟨(some 120), none, (.r (.mv (.tmp 119))), []⟩, ⟨(some 121), (some (120, true)), (.r (.mv (.tmp 7))), []⟩, ⟨(some 122), (some (120, true)), (.r (.mv (.tmp 16))), []⟩, ⟨(some 123), (some (120, true)), (.r (.ia 3 (.tmp 121) (.tmp 122))), []⟩, ⟨(some 124), (some (120, true)), (.r (.fa 2 (.tmp 123))), []⟩, ⟨(some 125), (some (120, true)), (.r (.ld (.tmp 124))), []⟩, ⟨(some 126), none, (.r (.pick (.tmp 120) (.tmp 125) (.const (.bool false)))), []⟩, ⟨(some 127), none, (.r (.mv (.tmp 126))), []⟩, ⟨(some 128), (some (127, true)), (.r (.mv (.tmp 7))), []⟩, ⟨(some 129), (some (127, true)), (.r (.mv (.tmp 16))), []⟩, ⟨(some 130), (some (127, true)), (.r (.ia 3 (.tmp 128) (.tmp 129))), []⟩, ⟨(some 131), (some (127, true)), (.r (.fa 1 (.tmp 130))), []⟩, ⟨(some 132), (some (127, true)), (.r (.ld (.tmp 131))), []⟩, ⟨(some 133), (some (127, true)), (.r (.mv (.tmp 16))), []⟩, ⟨(some 134), (some (127, true)), (.r (.bin .eql (.tmp 132) (.tmp 133))), []⟩, ⟨(some 135), none, (.r (.pick (.tmp 127) (.tmp 134) (.const (.bool false)))), []⟩, ⟨(some 15), none, (.a (.tmp 135)), []⟩]))))
  (.run [⟨(some 136), none, (.r (.bin .add (.tmp 107) (.const (.int .i64 1)))), []⟩, ⟨(some 107), none, (.r (.mv (.tmp 136))), []⟩]))
def rc3_8 : RC := (.seq (.run [⟨(some 108), none, (.r (.bin .lss (.tmp 107) (.tmp 106))), []⟩])
  (.seq (.cond (.tmp 108)
  .skip
  (.exit 4))
  rc3_7))
def rc3_9 : RC := (.seq (.run [⟨(some 137), none, (.r (.mv (.tmp 5))), []⟩, ⟨(some 138), none, (.c (.fn 14 [(.tmp 137)])), []⟩, ⟨(some 139), none, (.r (.mv (.tmp 15))), []⟩, ⟨(some 140), none, (.r (.eq false .bool (.tmp 138) (.tmp 139))), []⟩, ⟨(some 4), none, (.a (.tmp 140)), []⟩])
  .ret)
def rc3_10 : RC := (.seq (.run [⟨(some 101), none, (.r (.mv (.tmp 7))), []⟩, ⟨(some 102), none, (.r (.lenl (.tmp 101))), []⟩, ⟨(some 103), none, (.r (.mv (.tmp 6))), []⟩, ⟨(some 104), none, (.r (.bin .eql (.tmp 102) (.tmp 103))), []⟩, ⟨(some 15), none, (.a (.tmp 104)), []⟩])
  (.seq (.seq (.run [⟨(some 105), none, (.r (.mv (.tmp 14))), []⟩, ⟨(some 106), none, (.r (.lenl (.tmp 105))), []⟩, ⟨(some 107), none, (.r (.mv (.const (.int .i64 0)))), []⟩])
  (.block 4 (.loop rc3_8)))
  rc3_9))
def rc3_11 : RC := (.seq (.run [⟨(some 94), none, (.r (.mv (.tmp 5))), []⟩, ⟨(some 95), none, (.c (.fn 13 [(.tmp 94)])), []⟩, ⟨(some 14), none, (.a (.tmp 95)), []⟩])
  (.seq (.seq (.run [⟨(some 96), none, (.r (.mv (.tmp 14))), []⟩, ⟨(some 97), none, (.r (.lenl (.tmp 96))), []⟩, ⟨(some 98), none, (.r (.mv (.tmp 7))), []⟩, ⟨(some 99), none, (.r (.lenl (.tmp 98))), []⟩, ⟨(some 100), none, (.r (.bin .neq (.tmp 97) (.tmp 99))), []⟩])
  (.cond (.tmp 100)
  (.seq (.run [⟨(some 4), none, (.a (.const (.bool false))), []⟩])
  .ret)
  .skip))
  rc3_10))
def rc3_12 : RC := (.seq (.run [⟨(some 19), none, (.r (.mv (.tmp 0))), []⟩, ⟨(some 20), none, (.c (.fn 10 [(.tmp 19)])), []⟩, ⟨(some 5), none, (.a (.tmp 20)), []⟩])
  (.seq (.run [⟨(some 6), none, (.a (.const (.int .i64 0))), []⟩])
  (.seq (.run [⟨(some 7), none, (.a (.const (.slice none 0 0))), []⟩])
  (.seq (.seq (.run [⟨(some 21), none, (.r (.mv (.tmp 1))), []⟩, ⟨(some 22), none, (.r (.lenl (.tmp 21))), []⟩, ⟨(some 23), none, (.r (.mv (.const (.int .i64 0)))), []⟩])
  (.block 0 (.loop rc3_6)))
  rc3_11))))
def rc3 : RC := (.seq (.run [⟨(some 4), none, (.a (.const (.bool false))), []⟩])
  (.seq (.seq (.run [⟨(some 17), none, (.c (.fn 9 [])), []⟩, ⟨(some 18), none, (.r (.not (.tmp 17))), []⟩])
  (.cond (.tmp 18)
  (.seq (.run [⟨(some 4), none, (.a (.const (.bool false))), []⟩])
  .ret)
  .skip))
  rc3_12))
def ce3 : List (Nat × List Nat × List Nat) := [(34, [0, 1, 2, 3, 4, 5, 6, 7, 8], [0, 0, 3, 7, 0, 0, 48, 112, 255])]
def ro3 : List RO := [(.mv (.tmp 4))]
theorem ok3 : okFn Try.prog 3 141 ce3 = some (rc3, ro3) := by kernel_rfl
/-! lifeline/lifelinelaw22.WireNone -/
def rc4_0 : RC := (.seq (.block 1 (.seq (.run [⟨(some 14), none, (.r (.ia 1 (.tmp 10) (.tmp 12))), []⟩, ⟨(some 15), none, (.r (.ld (.tmp 14))), []⟩, ⟨(some 6), none, (.a (.tmp 15)), []⟩])
  (.seq (.seq (.run [⟨(some 16), none, (.r (.mv (.tmp 3))), []⟩, ⟨(some 17), none, (.r (.mv (.tmp 6))), []⟩, ⟨(some 20), none, (.r (.mv (.tmp 6))), []⟩, ⟨(some 21), none, (.r (.b2s (.tmp 20))), []⟩, ⟨(some 18), none, (.c (.fn 11 [(.tmp 16), (.tmp 17)])), [(21, none, .b2s (.tmp 20))]⟩, ⟨(some 19), none, (.r (.b2s (.tmp 18))), []⟩, ⟨(some 22), none, (.r (.bin .neq (.tmp 19) (.tmp 21))), []⟩])
  (.cond (.tmp 22)
  (.seq (.run [⟨(some 2), none, (.a (.const (.bool false))), []⟩])
  .ret)
  .skip))
  (.run [⟨(some 23), none, (.r (.mv (.tmp 4))), []⟩, ⟨(some 24), none, (.r (.mv (.tmp 6))), []⟩, ⟨(some 25), none, (.r (.lenl (.tmp 24))), []⟩, ⟨(some 26), none, (.r (.bin .add (.tmp 23) (.tmp 25))), []⟩, ⟨(some 4), none, (.a (.tmp 26)), []⟩]))))
  (.run [⟨(some 27), none, (.r (.bin .add (.tmp 12) (.const (.int .i64 1)))), []⟩, ⟨(some 12), none, (.r (.mv (.tmp 27))), []⟩]))
def rc4_1 : RC := (.seq (.run [⟨(some 13), none, (.r (.bin .lss (.tmp 12) (.tmp 11))), []⟩])
  (.seq (.cond (.tmp 13)
  .skip
  (.exit 0))
  rc4_0))
def rc4_2 : RC := (.seq (.run [⟨(some 28), none, (.r (.mv (.tmp 3))), []⟩, ⟨(some 29), none, (.c (.fn 14 [(.tmp 28)])), []⟩, ⟨(some 30), none, (.r (.mv (.tmp 29))), []⟩, ⟨(some 31), (some (30, true)), (.r (.mv (.tmp 3))), []⟩, ⟨(some 32), (some (30, true)), (.c (.fn 12 [(.tmp 31)])), []⟩, ⟨(some 33), (some (30, true)), (.r (.mv (.tmp 4))), []⟩, ⟨(some 34), (some (30, true)), (.r (.bin .eql (.tmp 32) (.tmp 33))), []⟩, ⟨(some 35), none, (.r (.pick (.tmp 30) (.tmp 34) (.const (.bool false)))), []⟩, ⟨(some 36), none, (.r (.mv (.tmp 35))), []⟩, ⟨(some 37), (some (36, true)), (.r (.mv (.tmp 3))), []⟩, ⟨(some 38), (some (36, true)), (.c (.fn 13 [(.tmp 37)])), []⟩, ⟨(some 39), (some (36, true)), (.r (.lenl (.tmp 38))), []⟩, ⟨(some 40), (some (36, true)), (.r (.mv (.tmp 4))), []⟩, ⟨(some 41), (some (36, true)), (.r (.bin .eql (.tmp 39) (.tmp 40))), []⟩, ⟨(some 42), none, (.r (.pick (.tmp 36) (.tmp 41) (.const (.bool false)))), []⟩, ⟨(some 2), none, (.a (.tmp 42)), []⟩])
  .ret)
def rc4_3 : RC := (.seq (.run [⟨(some 9), none, (.c (.fn 10 [(.const (.slice none 0 0))])), []⟩, ⟨(some 3), none, (.a (.tmp 9)), []⟩])
  (.seq (.run [⟨(some 4), none, (.a (.const (.int .i64 0))), []⟩])
  (.seq (.seq (.run [⟨(some 10), none, (.r (.mv (.tmp 0))), []⟩, ⟨(some 11), none, (.r (.lenl (.tmp 10))), []⟩, ⟨(some 12), none, (.r (.mv (.const (.int .i64 0)))), []⟩])
  (.block 0 (.loop rc4_1)))
  rc4_2)))
def rc4 : RC := (.seq (.run [⟨(some 2), none, (.a (.const (.bool false))), []⟩])
  (.seq (.seq (.run [⟨(some 7), none, (.c (.fn 9 [])), []⟩, ⟨(some 8), none, (.r (.not (.tmp 7))), []⟩])
  (.cond (.tmp 8)
  (.seq (.run [⟨(some 2), none, (.a (.const (.bool false))), []⟩])
  .ret)
  .skip))
  rc4_3))
def ce4 : List (Nat × List Nat × List Nat) := [(8, [0, 1, 4, 5, 2, 3, 6], [0, 0, 3, 7, 0, 16, 63])]
def ro4 : List RO := [(.mv (.tmp 2))]
theorem ok4 : okFn Try.prog 4 43 ce4 = some (rc4, ro4) := by kernel_rfl
/-! lifeline/lifelinelaw22.WireOrder -/
def rc5_0 : RC := (.seq (.block 1 (.seq (.run [⟨(some 29), none, (.r (.mv (.tmp 27))), []⟩, ⟨(some 30), none, (.r (.ia 3 (.tmp 25) (.tmp 27))), []⟩, ⟨(some 31), none, (.r (.ldn 3 (.tmp 30))), []⟩, ⟨(some 10), none, (.e (.al [(.int .u8 0), (.int .i64 0), (.bool false)] 32)), []⟩, ⟨(some 9), none, (.a (.tmp 29)), []⟩, ⟨none, none, (.e (.st 3 (.tmp 10) (.tmp 31))), []⟩])
  (.seq (.seq (.run [⟨(some 32), none, (.r (.fa 0 (.tmp 10))), []⟩, ⟨(some 33), none, (.r (.ld (.tmp 32))), []⟩, ⟨(some 34), none, (.r (.mv (.tmp 6))), []⟩, ⟨(some 35), none, (.r (.mv (.tmp 9))), []⟩, ⟨(some 36), none, (.r (.ia 1 (.tmp 34) (.tmp 35))), []⟩, ⟨(some 37), none, (.r (.ld (.tmp 36))), []⟩, ⟨(some 38), none, (.r (.bin .neq (.tmp 33) (.tmp 37))), []⟩, ⟨(some 39), none, (.r (.mv (.tmp 38))), []⟩, ⟨(some 40), (some (39, false)), (.r (.fa 1 (.tmp 10))), []⟩, ⟨(some 41), (some (39, false)), (.r (.ld (.tmp 40))), []⟩, ⟨(some 42), (some (39, false)), (.r (.mv (.tmp 1))), []⟩, ⟨(some 43), (some (39, false)), (.r (.lenl (.tmp 42))), []⟩, ⟨(some 44), (some (39, false)), (.r (.bin .geq (.tmp 41) (.tmp 43))), []⟩, ⟨(some 45), none, (.r (.pick (.tmp 39) (.const (.bool true)) (.tmp 44))), []⟩, ⟨(some 46), none, (.r (.mv (.tmp 45))), []⟩, ⟨(some 47), (some (46, false)), (.r (.fa 1 (.tmp 10))), []⟩, ⟨(some 48), (some (46, false)), (.r (.ld (.tmp 47))), []⟩, ⟨(some 49), (some (46, false)), (.r (.bin .geq (.tmp 48) (.const (.int .i64 0)))), []⟩, ⟨(some 50), (some (46, false)), (.r (.mv (.tmp 49))), []⟩, ⟨(some 51), (some (50, true)), (.r (.fa 1 (.tmp 10))), []⟩, ⟨(some 52), (some (50, true)), (.r (.ld (.tmp 51))), []⟩, ⟨(some 53), (some (50, true)), (.r (.mv (.tmp 7))), []⟩, ⟨(some 54), (some (50, true)), (.r (.bin .leq (.tmp 52) (.tmp 53))), []⟩, ⟨(some 55), (some (46, false)), (.r (.pick (.tmp 50) (.tmp 54) (.const (.bool false)))), []⟩, ⟨(some 56), none, (.r (.pick (.tmp 46) (.const (.bool true)) (.tmp 55))), []⟩, ⟨(some 57), none, (.r (.mv (.tmp 56))), []⟩, ⟨(some 58), (some (57, false)), (.r (.fa 2 (.tmp 10))), []⟩, ⟨(some 59), (some (57, false)), (.r (.ld (.tmp 58))), []⟩, ⟨(some 60), (some (57, false)), (.r (.mv (.tmp 59))), []⟩, ⟨(some 61), (some (60, true)), (.r (.fa 1 (.tmp 10))), []⟩, ⟨(some 62), (some (60, true)), (.r (.ld (.tmp 61))), []⟩, ⟨(some 63), (some (60, true)), (.r (.bin .lss (.tmp 62) (.const (.int .i64 0)))), []⟩, ⟨(some 64), (some (60, true)), (.r (.mv (.tmp 63))), []⟩, ⟨(some 65), (some (64, false)), (.r (.mv (.tmp 1))), []⟩, ⟨(some 66), (some (64, false)), (.r (.fa 1 (.tmp 10))), []⟩, ⟨(some 67), (some (64, false)), (.r (.ld (.tmp 66))), []⟩, ⟨(some 68), (some (64, false)), (.r (.ia 1 (.tmp 65) (.tmp 67))), []⟩, ⟨(some 69), (some (64, false)), (.r (.ld (.tmp 68))), []⟩, ⟨(some 70), (some (64, false)), (.r (.fa 0 (.tmp 10))), []⟩, ⟨(some 71), (some (64, false)), (.r (.ld (.tmp 70))), []⟩, ⟨(some 72), (some (64, false)), (.r (.bin .neq (.tmp 69) (.tmp 71))), []⟩, ⟨(some 73), (some (60, true)), (.r (.pick (.tmp 64) (.const (.bool true)) (.tmp 72))), []⟩, ⟨(some 74), (some (57, false)), (.r (.pick (.tmp 60) (.tmp 73) (.const (.bool false)))), []⟩, ⟨(some 75), none, (.r (.pick (.tmp 57) (.const (.bool true)) (.tmp 74))), []⟩])
  (.cond (.tmp 75)
  (.seq (.run [⟨(some 4), none, (.a (.const (.bool false))), []⟩])
  .ret)
  .skip))
  (.run [⟨(some 76), none, (.r (.mv (.tmp 7))), []⟩, ⟨(some 77), none, (.r (.fa 1 (.tmp 10))), []⟩, ⟨(some 78), none, (.r (.ld (.tmp 77))), []⟩, ⟨(some 79), none, (.r (.mx (.tmp 76) (.tmp 78))), []⟩, ⟨(some 7), none, (.a (.tmp 79)), []⟩]))))
  (.run [⟨(some 80), none, (.r (.bin .add (.tmp 27) (.const (.int .i64 1)))), []⟩, ⟨(some 27), none, (.r (.mv (.tmp 80))), []⟩]))
def rc5_1 : RC := (.seq (.run [⟨(some 28), none, (.r (.bin .lss (.tmp 27) (.tmp 26))), []⟩])
  (.seq (.cond (.tmp 28)
  .skip
  (.exit 0))
  rc5_0))
def rc5_2 : RC := (.seq (.run [⟨(some 4), none, (.a (.const (.bool true))), []⟩])
  .ret)
def rc5_3 : RC := (.seq (.seq (.run [⟨(some 25), none, (.r (.mv (.tmp 8))), []⟩, ⟨(some 26), none, (.r (.lenl (.tmp 25))), []⟩, ⟨(some 27), none, (.r (.mv (.const (.int .i64 0)))), []⟩])
  (.block 0 (.loop rc5_1)))
  rc5_2)
def rc5_4 : RC := (.seq (.run [⟨(some 13), none, (.r (.mv (.tmp 0))), []⟩, ⟨(some 14), none, (.c (.fn 10 [(.tmp 13)])), []⟩, ⟨(some 5), none, (.a (.tmp 14)), []⟩])
  (.seq (.run [⟨(some 15), none, (.r (.mv (.tmp 5))), []⟩, ⟨(some 16), none, (.r (.mv (.tmp 1))), []⟩, ⟨(some 17), none, (.c (.fn 11 [(.tmp 15), (.tmp 16)])), []⟩, ⟨(some 6), none, (.a (.tmp 17)), []⟩])
  (.seq (.run [⟨(some 7), none, (.a (.const (.int .i64 (-1)))), []⟩])
  (.seq (.run [⟨(some 18), none, (.r (.mv (.tmp 5))), []⟩, ⟨(some 19), none, (.c (.fn 13 [(.tmp 18)])), []⟩, ⟨(some 8), none, (.a (.tmp 19)), []⟩])
  (.seq (.seq (.run [⟨(some 20), none, (.r (.mv (.tmp 8))), []⟩, ⟨(some 21), none, (.r (.lenl (.tmp 20))), []⟩, ⟨(some 22), none, (.r (.mv (.tmp 6))), []⟩, ⟨(some 23), none, (.r (.lenl (.tmp 22))), []⟩, ⟨(some 24), none, (.r (.bin .neq (.tmp 21) (.tmp 23))), []⟩])
  (.cond (.tmp 24)
  (.seq (.run [⟨(some 4), none, (.a (.const (.bool false))), []⟩])
  .ret)
  .skip))
  rc5_3)))))
def rc5 : RC := (.seq (.run [⟨(some 4), none, (.a (.const (.bool false))), []⟩])
  (.seq (.seq (.run [⟨(some 11), none, (.c (.fn 9 [])), []⟩, ⟨(some 12), none, (.r (.not (.tmp 11))), []⟩])
  (.cond (.tmp 12)
  (.seq (.run [⟨(some 4), none, (.a (.const (.bool false))), []⟩])
  .ret)
  .skip))
  rc5_4))
def ce5 : List (Nat × List Nat × List Nat) := [(12, [0, 1, 2, 3, 4, 5, 6, 7, 8, 9, 10, 11, 12, 13, 14, 15, 16, 17, 18, 19, 20, 21, 22, 23, 24, 25, 26, 27, 28, 29, 30, 31, 32, 33, 34, 35, 36, 37, 38, 39, 40, 41, 42, 43], [0, 1, 0, 0, 12, 28, 63, 127, 255, 511, 255, 1279, 4095, 8191, 16383, 32767, 65535, 131071, 262143, 524287, 1048575, 524287, 4194303, 8388607, 16777215, 33554431, 67108863, 134217727, 268435455, 536870911, 1073741823, 2147483647, 4294967295, 8589934591, 8589934591, 25769803775, 68719476735, 137438953471, 8589934591, 283467841535, 1099511627775, 2199023255551, 4398046511103, 8796093022207])]
def ro5 : List RO := [(.mv (.tmp 4))]
theorem ok5 : okFn Try.prog 5 81 ce5 = some (rc5, ro5) := by kernel_rfl
/-! lifeline/lifelinelaw22.WireParts -/
def rc6_0 : RC := (.seq (.run [⟨(some 14), none, (.r (.mv (.tmp 0))), []⟩, ⟨(some 15), none, (.c (.fn 10 [(.tmp 14)])), []⟩, ⟨(some 16), none, (.r (.mv (.tmp 0))), []⟩, ⟨(some 17), none, (.c (.fn 10 [(.tmp 16)])), []⟩, ⟨(some 7), none, (.a (.tmp 15)), []⟩, ⟨(some 8), none, (.a (.tmp 17)), []⟩])
  (.seq (.run [⟨(some 18), none, (.r (.mv (.tmp 2))), []⟩, ⟨(some 19), none, (.r (.cvi .i64 (.tmp 18))), []⟩, ⟨(some 20), none, (.r (.mv (.tmp 1))), []⟩, ⟨(some 21), none, (.r (.lenl (.tmp 20))), []⟩, ⟨(some 22), none, (.r (.bin .add (.tmp 21) (.const (.int .i64 1)))), []⟩, ⟨(some 23), none, (.r (.bin .rem (.tmp 19) (.tmp 22))), []⟩, ⟨(some 9), none, (.a (.tmp 23)), []⟩])
  (.seq (.run [⟨(some 24), none, (.r (.mv (.tmp 7))), []⟩, ⟨(some 25), none, (.r (.mv (.tmp 1))), []⟩, ⟨(some 26), none, (.c (.fn 11 [(.tmp 24), (.tmp 25)])), []⟩, ⟨(some 27), none, (.r (.b2s (.tmp 26))), []⟩, ⟨(some 10), none, (.a (.tmp 27)), []⟩])
  (.seq (.run [⟨(some 28), none, (.r (.mv (.tmp 8))), []⟩, ⟨(some 29), none, (.r (.mv (.tmp 1))), []⟩, ⟨(some 30), none, (.r (.mv (.tmp 9))), []⟩, ⟨(some 31), none, (.r (.sl 1 (.tmp 29) none (some (.tmp 30)))), []⟩, ⟨(some 34), none, (.r (.mv (.tmp 8))), []⟩, ⟨(some 35), none, (.r (.mv (.tmp 1))), []⟩, ⟨(some 36), none, (.r (.mv (.tmp 9))), []⟩, ⟨(some 37), none, (.r (.sl 1 (.tmp 35) (some (.tmp 36)) none)), []⟩, ⟨(some 32), none, (.c (.fn 11 [(.tmp 28), (.tmp 31)])), []⟩, ⟨(some 33), none, (.r (.b2s (.tmp 32))), []⟩, ⟨(some 38), none, (.c (.fn 11 [(.tmp 34), (.tmp 37)])), [(33, none, .b2s (.tmp 32))]⟩, ⟨(some 39), none, (.r (.b2s (.tmp 38))), []⟩, ⟨(some 40), none, (.r (.bin .add (.tmp 33) (.tmp 39))), []⟩, ⟨(some 11), none, (.a (.tmp 40)), []⟩])
  (.seq (.run [⟨(some 41), none, (.r (.mv (.tmp 10))), []⟩, ⟨(some 42), none, (.r (.mv (.tmp 11))), []⟩, ⟨(some 43), none, (.r (.bin .eql (.tmp 41) (.tmp 42))), []⟩, ⟨(some 44), none, (.r (.mv (.tmp 43))), []⟩, ⟨(some 45), (some (44, true)), (.r (.mv (.tmp 7))), []⟩, ⟨(some 46), (some (44, true)), (.c (.fn 14 [(.tmp 45)])), []⟩, ⟨(some 47), (some (44, true)), (.r (.mv (.tmp 8))), []⟩, ⟨(some 48), (some (44, true)), (.c (.fn 14 [(.tmp 47)])), []⟩, ⟨(some 49), (some (44, true)), (.r (.eq false .bool (.tmp 46) (.tmp 48))), []⟩, ⟨(some 50), none, (.r (.pick (.tmp 44) (.tmp 49) (.const (.bool false)))), []⟩, ⟨(some 51), none, (.r (.mv (.tmp 50))), []⟩, ⟨(some 52), (some (51, true)), (.r (.mv (.tmp 7))), []⟩, ⟨(some 53), (some (51, true)), (.c (.fn 12 [(.tmp 52)])), []⟩, ⟨(some 54), (some (51, true)), (.r (.mv (.tmp 8))), []⟩, ⟨(some 55), (some (51, true)), (.c (.fn 12 [(.tmp 54)])), []⟩, ⟨(some 56), (some (51, true)), (.r (.bin .eql (.tmp 53) (.tmp 55))), []⟩, ⟨(some 57), none, (.r (.pick (.tmp 51) (.tmp 56) (.const (.bool false)))), []⟩, ⟨(some 6), none, (.a (.tmp 57)), []⟩])
  .ret)))))
def rc6 : RC := (.seq (.run [⟨(some 6), none, (.a (.const (.bool false))), []⟩])
  (.seq (.seq (.run [⟨(some 12), none, (.c (.fn 9 [])), []⟩, ⟨(some 13), none, (.r (.not (.tmp 12))), []⟩])
  (.cond (.tmp 13)
  (.seq (.run [⟨(some 6), none, (.a (.const (.bool false))), []⟩])
  .ret)
  .skip))
  rc6_0))
def ce6 : List (Nat × List Nat × List Nat) := [(6, [0, 1, 2, 3, 6, 7, 8, 9, 4, 5, 10, 11, 12, 13], [0, 0, 0, 6, 15, 31, 0, 0, 0, 384, 991, 2015, 4095, 8191])]
def ro6 : List RO := [(.mv (.tmp 6))]
theorem ok6 : okFn Try.prog 6 58 ce6 = some (rc6, ro6) := by kernel_rfl
/-! lifeline/lifelinelaw22.WireDrop -/
def rc7_0 : RC := (.seq (.block 1 (.run [⟨(some 17), none, (.r (.mv (.tmp 5))), []⟩, ⟨(some 18), none, (.r (.bld [(.bool false), (.int .u8 0), (.bool false), (.int .u8 0)] [(0, 1, (.const (.bool true)))])), []⟩, ⟨(some 19), none, (.e (.bsl 30 4 1 [(.bool false), (.int .u8 0), (.bool false), (.int .u8 0)] [(0, 4, (.tmp 18))])), []⟩, ⟨(some 20), none, (.e (.app 30 4 4 (.tmp 17) (.tmp 19))), []⟩, ⟨(some 5), none, (.a (.tmp 20)), []⟩]))
  (.run [⟨(some 15), none, (.r (.mv (.tmp 6))), []⟩, ⟨(some 16), none, (.r (.bin .add (.tmp 15) (.const (.int .i64 1)))), []⟩, ⟨(some 6), none, (.a (.tmp 16)), []⟩]))
def rc7_1 : RC := (.seq (.seq (.run [⟨(some 11), none, (.r (.mv (.tmp 6))), []⟩, ⟨(some 12), none, (.r (.mv (.tmp 1))), []⟩, ⟨(some 13), none, (.r (.cvi .i64 (.tmp 12))), []⟩, ⟨(some 14), none, (.r (.bin .lss (.tmp 11) (.tmp 13))), []⟩])
  (.cond (.tmp 14)
  .skip
  (.exit 0)))
  rc7_0)
def rc7_2 : RC := (.seq (.run [⟨(some 21), none, (.r (.mv (.tmp 5))), []⟩, ⟨(some 22), none, (.c (.fn 10 [(.tmp 21)])), []⟩, ⟨(some 7), none, (.a (.tmp 22)), []⟩])
  (.seq (.run [⟨(some 23), none, (.r (.mv (.tmp 7))), []⟩, ⟨(some 24), none, (.r (.mv (.tmp 0))), []⟩, ⟨(some 25), none, (.c (.fn 11 [(.tmp 23), (.tmp 24)])), []⟩, ⟨(some 26), none, (.r (.b2s (.tmp 25))), []⟩, ⟨(some 8), none, (.a (.tmp 26)), []⟩])
  (.seq (.run [⟨(some 27), none, (.r (.mv (.tmp 8))), []⟩, ⟨(some 28), none, (.r (.mv (.tmp 0))), []⟩, ⟨(some 29), none, (.r (.mv (.tmp 0))), []⟩, ⟨(some 30), none, (.r (.lenl (.tmp 29))), []⟩, ⟨(some 31), none, (.r (.mv (.tmp 1))), []⟩, ⟨(some 32), none, (.r (.cvi .i64 (.tmp 31))), []⟩, ⟨(some 33), none, (.r (.mn (.tmp 30) (.tmp 32))), []⟩, ⟨(some 34), none, (.r (.sl 1 (.tmp 28) (some (.tmp 33)) none)), []⟩, ⟨(some 35), none, (.r (.b2s (.tmp 34))), []⟩, ⟨(some 36), none, (.r (.bin .eql (.tmp 27) (.tmp 35))), []⟩, ⟨(some 37), none, (.r (.mv (.tmp 36))), []⟩, ⟨(some 38), (some (37, true)), (.r (.mv (.tmp 7))), []⟩, ⟨(some 39), (some (37, true)), (.c (.fn 12 [(.tmp 38)])), []⟩, ⟨(some 40), (some (37, true)), (.r (.mv (.tmp 0))), []⟩, ⟨(some 41), (some (37, true)), (.r (.lenl (.tmp 40))), []⟩, ⟨(some 42), (some (37, true)), (.r (.bin .eql (.tmp 39) (.tmp 41))), []⟩, ⟨(some 43), none, (.r (.pick (.tmp 37) (.tmp 42) (.const (.bool false)))), []⟩, ⟨(some 44), none, (.r (.mv (.tmp 43))), []⟩, ⟨(some 45), (some (44, true)), (.r (.mv (.tmp 7))), []⟩, ⟨(some 46), (some (44, true)), (.c (.fn 14 [(.tmp 45)])), []⟩, ⟨(some 47), (some (44, true)), (.r (.mv (.tmp 1))), []⟩, ⟨(some 48), (some (44, true)), (.r (.bin .eql (.tmp 47) (.const (.int .u8 0)))), []⟩, ⟨(some 49), (some (44, true)), (.r (.mv (.tmp 48))), []⟩, ⟨(some 50), (some (49, false)), (.r (.mv (.tmp 0))), []⟩, ⟨(some 51), (some (49, false)), (.r (.lenl (.tmp 50))), []⟩, ⟨(some 52), (some (49, false)), (.r (.bin .eql (.tmp 51) (.const (.int .i64 0)))), []⟩, ⟨(some 53), (some (44, true)), (.r (.pick (.tmp 49) (.const (.bool true)) (.tmp 52))), []⟩, ⟨(some 54), (some (44, true)), (.r (.eq false .bool (.tmp 46) (.tmp 53))), []⟩, ⟨(some 55), none, (.r (.pick (.tmp 44) (.tmp 54) (.const (.bool false)))), []⟩, ⟨(some 4), none, (.a (.tmp 55)), []⟩])
  .ret)))
def rc7_3 : RC := (.seq (.run [⟨(some 5), none, (.a (.const (.slice none 0 0))), []⟩])
  (.seq (.seq (.run [⟨(some 6), none, (.a (.const (.int .i64 0))), []⟩])
  (.block 0 (.loop rc7_1)))
  rc7_2))
def rc7 : RC := (.seq (.run [⟨(some 4), none, (.a (.const (.bool false))), []⟩])
  (.seq (.seq (.run [⟨(some 9), none, (.c (.fn 9 [])), []⟩, ⟨(some 10), none, (.r (.not (.tmp 9))), []⟩])
  (.cond (.tmp 10)
  (.seq (.run [⟨(some 4), none, (.a (.const (.bool false))), []⟩])
  .ret)
  .skip))
  rc7_3))
def ce7 : List (Nat × List Nat × List Nat) := []
def ro7 : List RO := [(.mv (.tmp 4))]
theorem ok7 : okFn Try.prog 7 56 ce7 = some (rc7, ro7) := by kernel_rfl
/-! lifeline/lifelinelaw22.WireBack -/
def rc8_0 : RC := (.seq (.block 1 (.seq (.run [⟨(some 18), none, (.r (.ia 1 (.tmp 14) (.tmp 16))), []⟩, ⟨(some 19), none, (.r (.ld (.tmp 18))), []⟩, ⟨(some 7), none, (.a (.tmp 19)), []⟩])
  (.run [⟨(some 20), none, (.r (.mv (.tmp 5))), []⟩, ⟨(some 21), none, (.r (.mv (.tmp 7))), []⟩, ⟨(some 22), none, (.r (.bld [(.bool false), (.int .u8 0), (.bool false), (.int .u8 0)] [(1, 1, (.tmp 21))])), []⟩, ⟨(some 23), none, (.e (.bsl 30 4 1 [(.bool false), (.int .u8 0), (.bool false), (.int .u8 0)] [(0, 4, (.tmp 22))])), []⟩, ⟨(some 24), none, (.e (.app 30 4 4 (.tmp 20) (.tmp 23))), []⟩, ⟨(some 5), none, (.a (.tmp 24)), []⟩])))
  (.run [⟨(some 25), none, (.r (.bin .add (.tmp 16) (.const (.int .i64 1)))), []⟩, ⟨(some 16), none, (.r (.mv (.tmp 25))), []⟩]))
def rc8_1 : RC := (.seq (.run [⟨(some 17), none, (.r (.bin .lss (.tmp 16) (.tmp 15))), []⟩])
  (.seq (.cond (.tmp 17)
  .skip
  (.exit 0))
  rc8_0))
def rc8_2 : RC := (.seq (.run [⟨(some 26), none, (.r (.mv (.tmp 5))), []⟩, ⟨(some 27), none, (.c (.fn 10 [(.tmp 26)])), []⟩, ⟨(some 28), none, (.r (.mv (.tmp 5))), []⟩, ⟨(some 29), none, (.c (.fn 10 [(.tmp 28)])), []⟩, ⟨(some 8), none, (.a (.tmp 27)), []⟩, ⟨(some 9), none, (.a (.tmp 29)), []⟩])
  (.seq (.run [⟨(some 30), none, (.r (.mv (.tmp 8))), []⟩, ⟨(some 31), none, (.r (.mv (.tmp 0))), []⟩, ⟨(some 32), none, (.c (.fn 11 [(.tmp 30), (.tmp 31)])), []⟩, ⟨(some 10), none, (.a (.tmp 32)), []⟩])
  (.seq (.run [⟨(some 33), none, (.r (.mv (.tmp 9))), []⟩, ⟨(some 34), none, (.r (.mv (.tmp 10))), []⟩, ⟨(some 35), none, (.c (.fn 11 [(.tmp 33), (.tmp 34)])), []⟩, ⟨(some 11), none, (.a (.tmp 35)), []⟩])
  (.seq (.run [⟨(some 36), none, (.r (.mv (.tmp 10))), []⟩, ⟨(some 37), none, (.r (.lenl (.tmp 36))), []⟩, ⟨(some 38), none, (.r (.mv (.tmp 0))), []⟩, ⟨(some 39), none, (.r (.lenl (.tmp 38))), []⟩, ⟨(some 40), none, (.r (.bin .eql (.tmp 37) (.tmp 39))), []⟩, ⟨(some 41), none, (.r (.mv (.tmp 40))), []⟩, ⟨(some 42), (some (41, true)), (.r (.mv (.tmp 11))), []⟩, ⟨(some 43), (some (41, true)), (.r (.b2s (.tmp 42))), []⟩, ⟨(some 44), (some (41, true)), (.r (.mv (.tmp 0))), []⟩, ⟨(some 45), (some (41, true)), (.r (.b2s (.tmp 44))), []⟩, ⟨(some 46), (some (41, true)), (.r (.bin .eql (.tmp 43) (.tmp 45))), []⟩, ⟨(some 47), none, (.r (.pick (.tmp 41) (.tmp 46) (.const (.bool false)))), []⟩, ⟨(some 48), none, (.r (.mv (.tmp 47))), []⟩, ⟨(some 49), (some (48, true)), (.r (.mv (.tmp 8))), []⟩, ⟨(some 51), (some (48, true)), (.r (.mv (.tmp 10))), []⟩, ⟨(some 52), (some (48, true)), (.r (.b2s (.tmp 51))), []⟩, ⟨(some 53), (some (48, true)), (.r (.mv (.tmp 0))), []⟩, ⟨(some 54), (some (48, true)), (.r (.b2s (.tmp 53))), []⟩, ⟨(some 55), (some (48, true)), (.r (.bin .eql (.tmp 52) (.tmp 54))), []⟩, ⟨(some 50), (some (48, true)), (.c (.fn 14 [(.tmp 49)])), [(52, (some (48, true)), .b2s (.tmp 51)), (54, (some (48, true)), .b2s (.tmp 53))]⟩, ⟨(some 56), (some (48, true)), (.r (.eq false .bool (.tmp 50) (.tmp 55))), []⟩, ⟨(some 57), none, (.r (.pick (.tmp 48) (.tmp 56) (.const (.bool false)))), []⟩, ⟨(some 4), none, (.a (.tmp 57)), []⟩])
  .ret))))
def rc8_3 : RC := (.seq (.run [⟨(some 5), none, (.a (.const (.slice none 0 0))), []⟩])
  (.seq (.seq (.run [⟨(some 14), none, (.r (.mv (.tmp 1))), []⟩, ⟨(some 15), none, (.r (.lenl (.tmp 14))), []⟩, ⟨(some 16), none, (.r (.mv (.const (.int .i64 0)))), []⟩])
  (.block 0 (.loop rc8_1)))
  rc8_2))
def rc8 : RC := (.seq (.run [⟨(some 4), none, (.a (.const (.bool false))), []⟩])
  (.seq (.seq (.run [⟨(some 12), none, (.c (.fn 9 [])), []⟩, ⟨(some 13), none, (.r (.not (.tmp 12))), []⟩])
  (.cond (.tmp 13)
  (.seq (.run [⟨(some 4), none, (.a (.const (.bool false))), []⟩])
  .ret)
  .skip))
  rc8_3))
def ce8 : List (Nat × List Nat × List Nat) := [(12, [0, 1, 2, 3, 4, 5, 6, 7, 8, 9, 10, 11, 12, 13, 15, 16, 17, 18, 19, 14, 20, 21, 22], [0, 1, 0, 4, 15, 31, 63, 127, 63, 319, 1023, 2047, 4095, 8191, 16383, 8191, 40959, 8191, 139263, 499711, 1048575, 2097151, 4194303])]
def ro8 : List RO := [(.mv (.tmp 4))]
theorem ok8 : okFn Try.prog 8 58 ce8 = some (rc8, ro8) := by kernel_rfl
/-! lifeline/lifelinelaw22.awake -/
def rc9_0 : RC := (.seq (.run [⟨(some 9), none, (.r (.mv (.tmp 1))), []⟩, ⟨(some 10), none, (.e (.bsl 5 1 3 [(.int .u8 0), (.int .u8 0), (.int .u8 0)] [(0, 1, (.const (.int .u8 1))), (1, 1, (.const (.int .u8 2))), (2, 1, (.const (.int .u8 3)))])), []⟩, ⟨(some 11), none, (.c (.fn 11 [(.tmp 9), (.tmp 10)])), []⟩, ⟨(some 2), none, (.a (.tmp 11)), []⟩])
  (.seq (.run [⟨(some 12), none, (.r (.mv (.tmp 2))), []⟩, ⟨(some 13), none, (.r (.b2s (.tmp 12))), []⟩, ⟨(some 14), none, (.r (.bin .eql (.tmp 13) (.const (.string ⟨#[1, 3]⟩)))), []⟩, ⟨(some 15), none, (.r (.mv (.tmp 14))), []⟩, ⟨(some 16), (some (15, true)), (.r (.mv (.tmp 1))), []⟩, ⟨(some 17), (some (15, true)), (.c (.fn 12 [(.tmp 16)])), []⟩, ⟨(some 18), (some (15, true)), (.r (.bin .eql (.tmp 17) (.const (.int .i64 3)))), []⟩, ⟨(some 19), none, (.r (.pick (.tmp 15) (.tmp 18) (.const (.bool false)))), []⟩, ⟨(some 20), none, (.r (.mv (.tmp 19))), []⟩, ⟨(some 21), (some (20, true)), (.r (.mv (.tmp 1))), []⟩, ⟨(some 22), (some (20, true)), (.c (.fn 14 [(.tmp 21)])), []⟩, ⟨(some 23), (some (20, true)), (.r (.not (.tmp 22))), []⟩, ⟨(some 24), none, (.r (.pick (.tmp 20) (.tmp 23) (.const (.bool false)))), []⟩, ⟨(some 25), none, (.r (.mv (.tmp 24))), []⟩, ⟨(some 26), (some (25, true)), (.r (.mv (.tmp 1))), []⟩, ⟨(some 27), (some (25, true)), (.c (.fn 13 [(.tmp 26)])), []⟩, ⟨(some 28), (some (25, true)), (.r (.lenl (.tmp 27))), []⟩, ⟨(some 29), (some (25, true)), (.r (.bin .eql (.tmp 28) (.const (.int .i64 2)))), []⟩, ⟨(some 30), none, (.r (.pick (.tmp 25) (.tmp 29) (.const (.bool false)))), []⟩, ⟨(some 31), none, (.r (.mv (.tmp 30))), []⟩, ⟨(some 32), (some (31, true)), (.r (.mv (.tmp 1))), []⟩, ⟨(some 33), (some (31, true)), (.c (.fn 13 [(.tmp 32)])), []⟩, ⟨(some 34), (some (31, true)), (.r (.ia 3 (.tmp 33) (.const (.int .i64 1)))), []⟩, ⟨(some 35), (some (31, true)), (.r (.ldn 3 (.tmp 34))), []⟩, ⟨(some 36), (some (31, true)), (.r (.bld [(.int .u8 0), (.int .i64 0), (.bool false)] [(0, 1, (.const (.int .u8 3))), (1, 1, (.const (.int .i64 2))), (2, 1, (.const (.bool true)))])), []⟩, ⟨(some 37), (some (31, true)), (.r (.eq false (.recd [(0, 0, .int), (1, 0, .int), (2, 0, .bool)]) (.tmp 35) (.tmp 36))), []⟩, ⟨(some 38), none, (.r (.pick (.tmp 31) (.tmp 37) (.const (.bool false)))), []⟩, ⟨(some 0), none, (.a (.tmp 38)), []⟩])
  .ret))
def rc9 : RC := (.seq (.run [⟨(some 0), none, (.a (.const (.bool false))), []⟩])
  (.seq (.run [⟨(some 3), none, (.r (.bld [(.bool false), (.int .u8 0), (.bool false), (.int .u8 0)] [])), []⟩, ⟨(some 4), none, (.r (.bld [(.bool false), (.int .u8 0), (.bool false), (.int .u8 0)] [(0, 1, (.const (.bool true)))])), []⟩, ⟨(some 5), none, (.e (.bsl 30 4 2 [(.bool false), (.int .u8 0), (.bool false), (.int .u8 0), (.bool false), (.int .u8 0), (.bool false), (.int .u8 0)] [(0, 4, (.tmp 3)), (4, 4, (.tmp 4))])), []⟩, ⟨(some 6), none, (.c (.fn 10 [(.tmp 5)])), []⟩, ⟨(some 1), none, (.a (.tmp 6)), []⟩])
  (.seq (.seq (.run [⟨(some 7), none, (.r (.mv (.tmp 1))), []⟩, ⟨(some 8), none, (.r (.eq false .ptr (.tmp 7) (.const (.pointer none)))), []⟩])
  (.cond (.tmp 8)
  (.seq (.run [⟨(some 0), none, (.a (.const (.bool false))), []⟩])
  .ret)
  .skip))
  rc9_0)))
def ce9 : List (Nat × List Nat × List Nat) := []
def ro9 : List RO := [(.mv (.tmp 0))]
theorem ok9 : okFn Try.prog 9 39 ce9 = some (rc9, ro9) := by kernel_rfl
/-! lifeline/wire.Of -/

def rc10 : RC := (.seq (.run [⟨(some 2), none, (.a (.const (.pointer none))), []⟩])
  (.seq (.run [⟨(some 3), none, (.r (.mv (.tmp 0))), []⟩, ⟨(some 4), none, (.e (.app 30 4 4 (.const (.slice none 0 0)) (.tmp 3))), []⟩, ⟨(some 5), none, (.r (.bld [(.slice none 0 0), (.int .i64 0), (.slice none 0 0)] [(0, 1, (.tmp 4))])), []⟩, ⟨(some 6), none, (.e (.bx 43 (.tmp 5))), []⟩, ⟨(some 2), none, (.a (.tmp 6)), []⟩])
  .ret))
def ce10 : List (Nat × List Nat × List Nat) := []
def ro10 : List RO := [(.mv (.tmp 2))]
theorem ok10 : okFn Try.prog 10 7 ce10 = some (rc10, ro10) := by kernel_rfl
/-! (*lifeline/wire.Wire).Pass -/
def rc11_0 : RC := (.seq (.seq (.run [⟨(some 26), none, (.r (.fa 0 (.tmp 9))), []⟩, ⟨(some 27), none, (.r (.ld (.tmp 26))), []⟩, ⟨(some 28), none, (.r (.not (.tmp 27))), []⟩])
  (.cond (.tmp 28)
  (.run [⟨(some 29), none, (.r (.mv (.tmp 6))), []⟩, ⟨(some 30), none, (.r (.mv (.tmp 8))), []⟩, ⟨(some 31), none, (.r (.fa 1 (.tmp 9))), []⟩, ⟨(some 32), none, (.r (.ld (.tmp 31))), []⟩, ⟨(some 33), none, (.r (.bin .xor (.tmp 30) (.tmp 32))), []⟩, ⟨(some 34), none, (.r (.ld (.tmp 2))), []⟩, ⟨(some 35), none, (.r (.nck (.tmp 34))), []⟩, ⟨(some 36), none, (.r (.fa 1 (.tmp 35))), []⟩, ⟨(some 37), none, (.r (.ld (.tmp 36))), []⟩, ⟨(some 38), none, (.r (.fa 1 (.tmp 9))), []⟩, ⟨(some 39), none, (.r (.ld (.tmp 38))), []⟩, ⟨(some 40), none, (.r (.bin .eql (.tmp 39) (.const (.int .u8 0)))), []⟩, ⟨(some 41), none, (.r (.bld [(.int .u8 0), (.int .i64 0), (.bool false)] [(0, 1, (.tmp 33)), (1, 1, (.tmp 37)), (2, 1, (.tmp 40))])), []⟩, ⟨(some 42), none, (.c (.val (.tmp 29) [(.tmp 41)])), []⟩])
  .skip))
  (.run [⟨(some 43), none, (.r (.ld (.tmp 2))), []⟩, ⟨(some 44), none, (.r (.nck (.tmp 43))), []⟩, ⟨(some 45), none, (.r (.fa 1 (.tmp 44))), []⟩, ⟨(some 46), none, (.r (.ld (.tmp 45))), []⟩, ⟨(some 47), none, (.r (.bin .add (.tmp 46) (.const (.int .i64 1)))), []⟩, ⟨(some 48), none, (.r (.nck (.tmp 43))), []⟩, ⟨(some 49), none, (.r (.fa 1 (.tmp 48))), []⟩, ⟨none, none, (.e (.st 1 (.tmp 49) (.tmp 47))), []⟩]))
def rc11_1 : RC := (.seq (.block 1 (.seq (.run [⟨(some 15), none, (.r (.ia 1 (.tmp 11) (.tmp 13))), []⟩, ⟨(some 16), none, (.r (.ld (.tmp 15))), []⟩, ⟨(some 8), none, (.a (.tmp 16)), []⟩])
  (.seq (.run [⟨(some 17), none, (.r (.ld (.tmp 2))), []⟩, ⟨(some 18), none, (.c (.fn 16 [(.tmp 17)])), []⟩, ⟨(some 9), none, (.e (.al [(.bool false), (.int .u8 0), (.bool false), (.int .u8 0)] 30)), []⟩, ⟨none, none, (.e (.st 4 (.tmp 9) (.tmp 18))), []⟩])
  (.seq (.seq (.run [⟨(some 19), none, (.r (.fa 2 (.tmp 9))), []⟩, ⟨(some 20), none, (.r (.ld (.tmp 19))), []⟩])
  (.cond (.tmp 20)
  (.run [⟨(some 21), none, (.r (.mv (.tmp 6))), []⟩, ⟨(some 22), none, (.r (.fa 3 (.tmp 9))), []⟩, ⟨(some 23), none, (.r (.ld (.tmp 22))), []⟩, ⟨(some 24), none, (.r (.bld [(.int .u8 0), (.int .i64 0), (.bool false)] [(0, 1, (.tmp 23)), (1, 1, (.const (.int .i64 (-1))))])), []⟩, ⟨(some 25), none, (.c (.val (.tmp 21) [(.tmp 24)])), []⟩])
  .skip))
  rc11_0))))
  (.run [⟨(some 50), none, (.r (.bin .add (.tmp 13) (.const (.int .i64 1)))), []⟩, ⟨(some 13), none, (.r (.mv (.tmp 50))), []⟩]))
def rc11_2 : RC := (.seq (.run [⟨(some 14), none, (.r (.bin .lss (.tmp 13) (.tmp 12))), []⟩])
  (.seq (.cond (.tmp 14)
  .skip
  (.exit 0))
  rc11_1))
def rc11_3 : RC := (.seq (.run [⟨(some 51), none, (.r (.ld (.tmp 5))), []⟩, ⟨(some 4), none, (.a (.tmp 51)), []⟩])
  .ret)
def rc11 : RC := (.seq (.run [⟨(some 2), none, (.e (.bx 25 (.tmp 0))), []⟩, ⟨(some 4), none, (.a (.const (.slice none 0 0))), []⟩])
  (.seq (.run [⟨(some 5), none, (.e (.al [(.slice none 0 0)] 28)), []⟩])
  (.seq (.run [⟨(some 10), none, (.r (.mkf (.func 15) [] [(.tmp 2), (.tmp 5)])), []⟩, ⟨(some 6), none, (.a (.tmp 10)), []⟩])
  (.seq (.seq (.run [⟨(some 11), none, (.r (.mv (.tmp 1))), []⟩, ⟨(some 12), none, (.r (.lenl (.tmp 11))), []⟩, ⟨(some 13), none, (.r (.mv (.const (.int .i64 0)))), []⟩])
  (.block 0 (.loop rc11_2)))
  rc11_3))))
def ce11 : List (Nat × List Nat × List Nat) := [(10, [0, 1, 2, 3, 4, 5, 6, 7, 8, 9, 10, 11, 12, 13], [0, 0, 0, 4, 14, 0, 32, 96, 224, 0, 512, 1536, 4094, 8191])]
def ro11 : List RO := [(.mv (.tmp 4))]
theorem ok11 : okFn Try.prog 11 52 ce11 = some (rc11, ro11) := by kernel_rfl
/-! (*lifeline/wire.Wire).Sent -/

def rc12 : RC := (.seq (.run [⟨(some 2), none, (.a (.const (.int .i64 0))), []⟩])
  (.seq (.run [⟨(some 3), none, (.r (.mv (.tmp 0))), []⟩, ⟨(some 4), none, (.r (.nck (.tmp 3))), []⟩, ⟨(some 5), none, (.r (.fa 1 (.tmp 4))), []⟩, ⟨(some 6), none, (.r (.ld (.tmp 5))), []⟩, ⟨(some 2), none, (.a (.tmp 6)), []⟩])
  .ret))
def ce12 : List (Nat × List Nat × List Nat) := []
def ro12 : List RO := [(.mv (.tmp 2))]
theorem ok12 : okFn Try.prog 12 7 ce12 = some (rc12, ro12) := by kernel_rfl
/-! (*lifeline/wire.Wire).Marks -/

def rc13 : RC := (.seq (.run [⟨(some 2), none, (.a (.const (.slice none 0 0))), []⟩])
  (.seq (.run [⟨(some 3), none, (.r (.mv (.tmp 0))), []⟩, ⟨(some 4), none, (.r (.nck (.tmp 3))), []⟩, ⟨(some 5), none, (.r (.fa 2 (.tmp 4))), []⟩, ⟨(some 6), none, (.r (.ld (.tmp 5))), []⟩, ⟨(some 7), none, (.e (.app 32 3 24 (.const (.slice none 0 0)) (.tmp 6))), []⟩, ⟨(some 2), none, (.a (.tmp 7)), []⟩])
  .ret))
def ce13 : List (Nat × List Nat × List Nat) := []
def ro13 : List RO := [(.mv (.tmp 2))]
theorem ok13 : okFn Try.prog 13 8 ce13 = some (rc13, ro13) := by kernel_rfl
/-! (*lifeline/wire.Wire).Clean -/
def rc14_0 : RC := (.seq (.block 1 (.seq (.run [⟨(some 12), none, (.r (.mv (.tmp 10))), []⟩, ⟨(some 13), none, (.r (.ia 3 (.tmp 8) (.tmp 10))), []⟩, ⟨(some 14), none, (.r (.ldn 3 (.tmp 13))), []⟩, ⟨(some 4), none, (.e (.al [(.int .u8 0), (.int .i64 0), (.bool false)] 32)), []⟩, ⟨(some 3), none, (.a (.tmp 12)), []⟩, ⟨none, none, (.e (.st 3 (.tmp 4) (.tmp 14))), []⟩])
  (.seq (.run [⟨(some 15), none, (.r (.fa 2 (.tmp 4))), []⟩, ⟨(some 16), none, (.r (.ld (.tmp 15))), []⟩, ⟨(some 17), none, (.r (.not (.tmp 16))), []⟩, ⟨(some 18), none, (.r (.mv (.tmp 17))), []⟩, ⟨(some 19), (some (18, false)), (.r (.fa 1 (.tmp 4))), []⟩, ⟨(some 20), (some (18, false)), (.r (.ld (.tmp 19))), []⟩, ⟨(some 21), (some (18, false)), (.r (.mv (.tmp 3))), []⟩, ⟨(some 22), (some (18, false)), (.r (.bin .neq (.tmp 20) (.tmp 21))), []⟩, ⟨(some 23), none, (.r (.pick (.tmp 18) (.const (.bool true)) (.tmp 22))), []⟩])
  (.cond (.tmp 23)
  (.seq (.run [⟨(some 2), none, (.a (.const (.bool false))), []⟩])
  .ret)
  .skip))))
  (.run [⟨(some 24), none, (.r (.bin .add (.tmp 10) (.const (.int .i64 1)))), []⟩, ⟨(some 10), none, (.r (.mv (.tmp 24))), []⟩]))
def rc14_1 : RC := (.seq (.run [⟨(some 11), none, (.r (.bin .lss (.tmp 10) (.tmp 9))), []⟩])
  (.seq (.cond (.tmp 11)
  .skip
  (.exit 0))
  rc14_0))
def rc14_2 : RC := (.seq (.run [⟨(some 25), none, (.r (.mv (.tmp 0))), []⟩, ⟨(some 26), none, (.r (.nck (.tmp 25))), []⟩, ⟨(some 27), none, (.r (.fa 2 (.tmp 26))), []⟩, ⟨(some 28), none, (.r (.ld (.tmp 27))), []⟩, ⟨(some 29), none, (.r (.lenl (.tmp 28))), []⟩, ⟨(some 30), none, (.r (.mv (.tmp 0))), []⟩, ⟨(some 31), none, (.r (.nck (.tmp 30))), []⟩, ⟨(some 32), none, (.r (.fa 1 (.tmp 31))), []⟩, ⟨(some 33), none, (.r (.ld (.tmp 32))), []⟩, ⟨(some 34), none, (.r (.bin .eql (.tmp 29) (.tmp 33))), []⟩, ⟨(some 2), none, (.a (.tmp 34)), []⟩])
  .ret)
def rc14 : RC := (.seq (.run [⟨(some 2), none, (.a (.const (.bool false))), []⟩])
  (.seq (.seq (.run [⟨(some 5), none, (.r (.mv (.tmp 0))), []⟩, ⟨(some 6), none, (.r (.nck (.tmp 5))), []⟩, ⟨(some 7), none, (.r (.fa 2 (.tmp 6))), []⟩, ⟨(some 8), none, (.r (.ld (.tmp 7))), []⟩, ⟨(some 9), none, (.r (.lenl (.tmp 8))), []⟩, ⟨(some 10), none, (.r (.mv (.const (.int .i64 0)))), []⟩])
  (.block 0 (.loop rc14_1)))
  rc14_2))
def ce14 : List (Nat × List Nat × List Nat) := [(7, [0, 1, 2, 3, 4, 5, 6, 7, 8, 9, 10], [0, 1, 3, 7, 15, 0, 32, 96, 224, 511, 1023])]
def ro14 : List RO := [(.mv (.tmp 2))]
theorem ok14 : okFn Try.prog 14 35 ce14 = some (rc14, ro14) := by kernel_rfl
/-! (*lifeline/wire.Wire).Pass$1 -/

def rc15 : RC := (.seq (.run [⟨(some 3), none, (.e (.bx 32 (.tmp 0))), []⟩])
  (.seq (.run [⟨(some 4), none, (.r (.ld (.tmp 1))), []⟩, ⟨(some 5), none, (.r (.ld (.tmp 1))), []⟩, ⟨(some 6), none, (.r (.nck (.tmp 5))), []⟩, ⟨(some 7), none, (.r (.fa 2 (.tmp 6))), []⟩, ⟨(some 8), none, (.r (.ld (.tmp 7))), []⟩, ⟨(some 9), none, (.r (.ldn 3 (.tmp 3))), []⟩, ⟨(some 10), none, (.e (.bsl 32 3 1 [(.int .u8 0), (.int .i64 0), (.bool false)] [(0, 3, (.tmp 9))])), [(4, none, .ld (.tmp 1)), (5, none, .ld (.tmp 1)), (8, none, .ld (.tmp 7))]⟩, ⟨(some 11), none, (.e (.app 32 3 24 (.tmp 8) (.tmp 10))), [(4, none, .ld (.tmp 1))]⟩, ⟨(some 12), none, (.r (.nck (.tmp 4))), []⟩, ⟨(some 13), none, (.r (.fa 2 (.tmp 12))), []⟩, ⟨none, none, (.e (.st 1 (.tmp 13) (.tmp 11))), []⟩])
  (.run [⟨(some 14), none, (.r (.ld (.tmp 2))), []⟩, ⟨(some 15), none, (.r (.fa 0 (.tmp 3))), []⟩, ⟨(some 16), none, (.r (.ld (.tmp 15))), []⟩, ⟨(some 17), none, (.e (.bsl 5 1 1 [(.int .u8 0)] [(0, 1, (.tmp 16))])), []⟩, ⟨(some 18), none, (.e (.app 5 1 1 (.tmp 14) (.tmp 17))), []⟩, ⟨none, none, (.e (.st 1 (.tmp 2) (.tmp 18))), []⟩])))
def ce15 : List (Nat × List Nat × List Nat) := [(1, [0, 1, 2, 3, 4, 5, 6, 7, 8, 9, 10], [0, 0, 2, 6, 14, 0, 32, 126, 255, 511, 1023])]
def ro15 : List RO := []
theorem ok15 : okFn Try.prog 15 19 ce15 = some (rc15, ro15) := by kernel_rfl
/-! (*lifeline/wire.Wire).act -/
def rc16_0 : RC := (.seq (.run [⟨(some 23), none, (.r (.bld [(.bool false), (.int .u8 0), (.bool false), (.int .u8 0)] [])), []⟩, ⟨none, none, (.e (.st 4 (.tmp 2) (.tmp 23))), []⟩])
  .ret)
def rc16 : RC := (.seq (.run [⟨(some 2), none, (.e (.al [(.bool false), (.int .u8 0), (.bool false), (.int .u8 0)] 30)), []⟩])
  (.seq (.seq (.run [⟨(some 3), none, (.r (.mv (.tmp 0))), []⟩, ⟨(some 4), none, (.r (.nck (.tmp 3))), []⟩, ⟨(some 5), none, (.r (.fa 1 (.tmp 4))), []⟩, ⟨(some 6), none, (.r (.ld (.tmp 5))), []⟩, ⟨(some 7), none, (.r (.mv (.tmp 0))), []⟩, ⟨(some 8), none, (.r (.nck (.tmp 7))), []⟩, ⟨(some 9), none, (.r (.fa 0 (.tmp 8))), []⟩, ⟨(some 10), none, (.r (.ld (.tmp 9))), []⟩, ⟨(some 11), none, (.r (.lenl (.tmp 10))), []⟩, ⟨(some 12), none, (.r (.bin .lss (.tmp 6) (.tmp 11))), []⟩])
  (.cond (.tmp 12)
  (.seq (.run [⟨(some 13), none, (.r (.mv (.tmp 0))), []⟩, ⟨(some 14), none, (.r (.nck (.tmp 13))), []⟩, ⟨(some 15), none, (.r (.fa 0 (.tmp 14))), []⟩, ⟨(some 16), none, (.r (.ld (.tmp 15))), []⟩, ⟨(some 17), none, (.r (.mv (.tmp 0))), []⟩, ⟨(some 18), none, (.r (.nck (.tmp 17))), []⟩, ⟨(some 19), none, (.r (.fa 1 (.tmp 18))), []⟩, ⟨(some 20), none, (.r (.ld (.tmp 19))), []⟩, ⟨(some 21), none, (.r (.ia 4 (.tmp 16) (.tmp 20))), []⟩, ⟨(some 22), none, (.r (.ldn 4 (.tmp 21))), []⟩, ⟨none, none, (.e (.st 4 (.tmp 2) (.tmp 22))), []⟩])
  .ret)
  .skip))
  rc16_0))
def ce16 : List (Nat × List Nat × List Nat) := [(1, [0, 1, 2, 3, 4, 5, 6, 7, 8, 9], [0, 1, 3, 7, 0, 16, 48, 112, 240, 511]), (2, [0, 1, 2, 3, 4, 5, 6, 7, 8, 9, 10], [0, 1, 3, 7, 0, 16, 48, 112, 255, 511, 1023])]
def ro16 : List RO := [(.ldn 4 (.tmp 2))]
theorem ok16 : okFn Try.prog 16 24 ce16 = some (rc16, ro16) := by kernel_rfl
end Go.Proofs.Ytebgffkiahmhfaa.Ab
