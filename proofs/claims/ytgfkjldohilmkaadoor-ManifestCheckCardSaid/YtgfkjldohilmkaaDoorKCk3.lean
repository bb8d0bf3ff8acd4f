/- Parts of a proof, put together: The resolved codes of the functions that are walked, and that the program has them. -/
import Derived.Test.YtgfkjldohilmkaaDoorKCk2
import Derived.Test.YtgfkjldohilmkaaDoorProg
import Derived.KernelRfl
set_option maxHeartbeats 4000000
namespace Go.Proofs.YtgfkjldohilmkaaDoor.Ab
open Go Go.RowKit
/-! gosem.cut.init -/

def rc2 : RC := (.run [⟨(some 0), none, (.c (.fn 1 [])), []⟩])
def ce2 : List (Nat × List Nat × List Nat) := []
def ro2 : List RO := []
theorem ok2 : okFn Tryd.prog 2 1 ce2 = some (rc2, ro2) := by kernel_rfl
/-! lifeline/lifelinelaw16.ManifestBack -/
def rc3_0 : RC := (.seq (.run [⟨(some 9), none, (.r (.mv (.tmp 0))), []⟩, ⟨(some 10), none, (.c (.fn 10 [(.tmp 9)])), []⟩, ⟨(some 3), none, (.a (.tmp 10)), []⟩])
  (.seq (.run [⟨(some 11), none, (.r (.mv (.tmp 3))), []⟩, ⟨(some 12), none, (.c (.fn 11 [(.tmp 11)])), []⟩, ⟨(some 4), none, (.a (.tmp 12)), []⟩])
  (.seq (.run [⟨(some 14), none, (.r (.mv (.tmp 4))), []⟩, ⟨(some 15), none, (.c (.fn 12 [(.tmp 14)])), []⟩, ⟨(some 13), none, (.r (.mv (.tmp 15))), []⟩, ⟨(some 16), none, (.r (.ext 0 (.tmp 13))), []⟩, ⟨(some 17), none, (.r (.ext 1 (.tmp 13))), []⟩, ⟨(some 5), none, (.a (.tmp 16)), []⟩, ⟨(some 6), none, (.a (.tmp 17)), []⟩])
  (.seq (.run [⟨(some 18), none, (.r (.mv (.tmp 4))), []⟩, ⟨(some 19), none, (.r (.mv (.tmp 3))), []⟩, ⟨(some 20), none, (.c (.fn 13 [(.tmp 19)])), []⟩, ⟨(some 21), none, (.r (.bin .eql (.tmp 18) (.tmp 20))), []⟩, ⟨(some 22), none, (.r (.mv (.tmp 21))), []⟩, ⟨(some 23), (some (22, true)), (.r (.mv (.tmp 6))), []⟩, ⟨(some 24), (some (22, true)), (.r (.eq false (.iface []) (.tmp 23) (.const .nilIface))), []⟩, ⟨(some 25), none, (.r (.pick (.tmp 22) (.tmp 24) (.const (.bool false)))), []⟩, ⟨(some 26), none, (.r (.mv (.tmp 25))), []⟩, ⟨(some 27), (some (26, true)), (.r (.mv (.tmp 5))), []⟩, ⟨(some 28), (some (26, true)), (.r (.mv (.tmp 3))), []⟩, ⟨(some 29), (some (26, true)), (.c (.fn 14 [(.tmp 27), (.tmp 28)])), []⟩, ⟨(some 30), none, (.r (.pick (.tmp 26) (.tmp 29) (.const (.bool false)))), []⟩, ⟨(some 2), none, (.a (.tmp 30)), []⟩])
  .ret))))
def rc3 : RC := (.seq (.run [⟨(some 2), none, (.a (.const (.bool false))), []⟩])
  (.seq (.seq (.run [⟨(some 7), none, (.c (.fn 9 [])), []⟩, ⟨(some 8), none, (.r (.not (.tmp 7))), []⟩])
  (.cond (.tmp 8)
  (.seq (.run [⟨(some 2), none, (.a (.const (.bool false))), []⟩])
  .ret)
  .skip))
  rc3_0))
def ce3 : List (Nat × List Nat × List Nat) := []
def ro3 : List RO := [(.mv (.tmp 2))]
theorem ok3 : okFn Tryd.prog 3 31 ce3 = some (rc3, ro3) := by kernel_rfl
/-! lifeline/lifelinelaw16.ManifestText -/
def rc4_0 : RC := (.seq (.block 1 (.seq (.run [⟨(some 12), none, (.r (.ia 5 (.tmp 8) (.tmp 10))), []⟩, ⟨(some 13), none, (.r (.ldn 5 (.tmp 12))), []⟩, ⟨(some 4), none, (.e (.al [(.string ⟨#[]⟩), (.int .i64 0), (.int .i64 0), (.int .u32 0), (.int .i64 0)] 36)), []⟩, ⟨none, none, (.e (.st 5 (.tmp 4) (.tmp 13))), []⟩])
  (.seq (.run [⟨(some 14), none, (.r (.fa 1 (.tmp 4))), []⟩, ⟨(some 15), none, (.r (.ld (.tmp 14))), []⟩, ⟨(some 16), none, (.r (.bin .lss (.tmp 15) (.const (.int .i64 (-1099511627776))))), []⟩, ⟨(some 17), none, (.r (.mv (.tmp 16))), []⟩, ⟨(some 18), (some (17, false)), (.r (.fa 2 (.tmp 4))), []⟩, ⟨(some 19), (some (17, false)), (.r (.ld (.tmp 18))), []⟩, ⟨(some 20), (some (17, false)), (.r (.bin .lss (.tmp 19) (.const (.int .i64 (-1099511627776))))), []⟩, ⟨(some 21), none, (.r (.pick (.tmp 17) (.const (.bool true)) (.tmp 20))), []⟩])
  (.cond (.tmp 21)
  (.seq (.run [⟨(some 2), none, (.a (.const (.bool true))), []⟩])
  .ret)
  .skip))))
  (.run [⟨(some 22), none, (.r (.bin .add (.tmp 10) (.const (.int .i64 1)))), []⟩, ⟨(some 10), none, (.r (.mv (.tmp 22))), []⟩]))
def rc4_1 : RC := (.seq (.run [⟨(some 11), none, (.r (.bin .lss (.tmp 10) (.tmp 9))), []⟩])
  (.seq (.cond (.tmp 11)
  .skip
  (.exit 0))
  rc4_0))
def rc4_2 : RC := (.seq (.run [⟨(some 23), none, (.c (.fn 15 [])), []⟩, ⟨(some 5), none, (.a (.tmp 23)), []⟩])
  (.seq (.run [⟨(some 24), none, (.r (.mv (.tmp 0))), []⟩, ⟨(some 25), none, (.c (.fn 11 [(.tmp 24)])), []⟩, ⟨(some 26), none, (.r (.mv (.tmp 0))), []⟩, ⟨(some 27), none, (.c (.fn 13 [(.tmp 26)])), []⟩, ⟨(some 28), none, (.r (.bin .eql (.tmp 25) (.tmp 27))), []⟩, ⟨(some 29), none, (.r (.mv (.tmp 28))), []⟩, ⟨(some 30), (some (29, true)), (.r (.mv (.tmp 5))), []⟩, ⟨(some 31), (some (29, true)), (.r (.lenl (.tmp 30))), []⟩, ⟨(some 32), (some (29, true)), (.r (.bin .eql (.tmp 31) (.const (.int .i64 4)))), []⟩, ⟨(some 33), none, (.r (.pick (.tmp 29) (.tmp 32) (.const (.bool false)))), []⟩, ⟨(some 34), none, (.r (.mv (.tmp 33))), []⟩, ⟨(some 35), (some (34, true)), (.r (.mv (.tmp 5))), []⟩, ⟨(some 36), (some (34, true)), (.r (.ia 1 (.tmp 35) (.const (.int .i64 0)))), []⟩, ⟨(some 37), (some (34, true)), (.r (.ld (.tmp 36))), []⟩, ⟨(some 38), (some (34, true)), (.r (.bin .eql (.tmp 37) (.const (.string ⟨#[99, 104, 101, 99, 107]⟩)))), []⟩, ⟨(some 39), none, (.r (.pick (.tmp 34) (.tmp 38) (.const (.bool false)))), []⟩, ⟨(some 40), none, (.r (.mv (.tmp 39))), []⟩, ⟨(some 41), (some (40, true)), (.r (.mv (.tmp 5))), []⟩, ⟨(some 42), (some (40, true)), (.r (.ia 1 (.tmp 41) (.const (.int .i64 3)))), []⟩, ⟨(some 43), (some (40, true)), (.r (.ld (.tmp 42))), []⟩, ⟨(some 44), (some (40, true)), (.r (.bin .eql (.tmp 43) (.const (.string ⟨#[98, 97, 116, 99, 104]⟩)))), []⟩, ⟨(some 45), none, (.r (.pick (.tmp 40) (.tmp 44) (.const (.bool false)))), []⟩, ⟨(some 2), none, (.a (.tmp 45)), []⟩])
  .ret))
def rc4_3 : RC := (.seq (.seq (.run [⟨(some 8), none, (.r (.mv (.tmp 0))), []⟩, ⟨(some 9), none, (.r (.lenl (.tmp 8))), []⟩, ⟨(some 10), none, (.r (.mv (.const (.int .i64 0)))), []⟩])
  (.block 0 (.loop rc4_1)))
  rc4_2)
def rc4 : RC := (.seq (.run [⟨(some 2), none, (.a (.const (.bool false))), []⟩])
  (.seq (.seq (.run [⟨(some 6), none, (.c (.fn 9 [])), []⟩, ⟨(some 7), none, (.r (.not (.tmp 6))), []⟩])
  (.cond (.tmp 7)
  (.seq (.run [⟨(some 2), none, (.a (.const (.bool false))), []⟩])
  .ret)
  .skip))
  rc4_3))
def ce4 : List (Nat × List Nat × List Nat) := []
def ro4 : List RO := [(.mv (.tmp 2))]
theorem ok4 : okFn Tryd.prog 4 46 ce4 = some (rc4, ro4) := by kernel_rfl
/-! lifeline/lifelinelaw16.ManifestCut -/
def rc5_0 : RC := (.seq (.run [⟨(some 12), none, (.r (.mv (.tmp 0))), []⟩, ⟨(some 13), none, (.c (.fn 10 [(.tmp 12)])), []⟩, ⟨(some 14), none, (.c (.fn 11 [(.tmp 13)])), []⟩, ⟨(some 5), none, (.a (.tmp 14)), []⟩])
  (.seq (.run [⟨(some 15), none, (.r (.mv (.tmp 1))), []⟩, ⟨(some 16), none, (.r (.cvi .i64 (.tmp 15))), []⟩, ⟨(some 17), none, (.r (.mv (.tmp 5))), []⟩, ⟨(some 18), none, (.r (.lens (.tmp 17))), []⟩, ⟨(some 19), none, (.r (.bin .add (.tmp 18) (.const (.int .i64 1)))), []⟩, ⟨(some 20), none, (.r (.bin .rem (.tmp 16) (.tmp 19))), []⟩, ⟨(some 6), none, (.a (.tmp 20)), []⟩])
  (.seq (.run [⟨(some 22), none, (.r (.mv (.tmp 5))), []⟩, ⟨(some 23), none, (.r (.mv (.tmp 6))), []⟩, ⟨(some 24), none, (.r (.sls (.tmp 22) none (some (.tmp 23)))), []⟩, ⟨(some 25), none, (.c (.fn 12 [(.tmp 24)])), []⟩, ⟨(some 21), none, (.r (.mv (.tmp 25))), []⟩, ⟨(some 26), none, (.r (.ext 0 (.tmp 21))), []⟩, ⟨(some 27), none, (.r (.ext 1 (.tmp 21))), []⟩, ⟨(some 7), none, (.a (.tmp 26)), []⟩, ⟨(some 8), none, (.a (.tmp 27)), []⟩])
  (.seq (.run [⟨(some 28), none, (.r (.mv (.tmp 6))), []⟩, ⟨(some 29), none, (.r (.bin .eql (.tmp 28) (.const (.int .i64 0)))), []⟩, ⟨(some 30), none, (.r (.mv (.tmp 29))), []⟩, ⟨(some 31), (some (30, false)), (.r (.mv (.tmp 5))), []⟩, ⟨(some 32), (some (30, false)), (.r (.mv (.tmp 6))), []⟩, ⟨(some 33), (some (30, false)), (.r (.bin .sub (.tmp 32) (.const (.int .i64 1)))), []⟩, ⟨(some 34), (some (30, false)), (.r (.ixs (.tmp 31) (.tmp 33))), []⟩, ⟨(some 35), (some (30, false)), (.r (.bin .eql (.tmp 34) (.const (.int .u8 59)))), []⟩, ⟨(some 36), none, (.r (.pick (.tmp 30) (.const (.bool true)) (.tmp 35))), []⟩, ⟨(some 37), none, (.r (.mv (.tmp 36))), []⟩, ⟨(some 38), (some (37, false)), (.r (.mv (.tmp 5))), []⟩, ⟨(some 39), (some (37, false)), (.r (.mv (.tmp 6))), []⟩, ⟨(some 40), (some (37, false)), (.r (.bin .sub (.tmp 39) (.const (.int .i64 1)))), []⟩, ⟨(some 41), (some (37, false)), (.r (.ixs (.tmp 38) (.tmp 40))), []⟩, ⟨(some 42), (some (37, false)), (.r (.bin .eql (.tmp 41) (.const (.int .u8 10)))), []⟩, ⟨(some 43), none, (.r (.pick (.tmp 37) (.const (.bool true)) (.tmp 42))), []⟩, ⟨(some 9), none, (.a (.tmp 43)), []⟩])
  (.seq (.run [⟨(some 44), none, (.r (.mv (.tmp 8))), []⟩, ⟨(some 45), none, (.r (.eq false (.iface []) (.tmp 44) (.const .nilIface))), []⟩, ⟨(some 46), none, (.r (.mv (.tmp 9))), []⟩, ⟨(some 47), none, (.r (.eq false .bool (.tmp 45) (.tmp 46))), []⟩, ⟨(some 4), none, (.a (.tmp 47)), []⟩])
  .ret)))))
def rc5 : RC := (.seq (.run [⟨(some 4), none, (.a (.const (.bool false))), []⟩])
  (.seq (.seq (.run [⟨(some 10), none, (.c (.fn 9 [])), []⟩, ⟨(some 11), none, (.r (.not (.tmp 10))), []⟩])
  (.cond (.tmp 11)
  (.seq (.run [⟨(some 4), none, (.a (.const (.bool false))), []⟩])
  .ret)
  .skip))
  rc5_0))
def ce5 : List (Nat × List Nat × List Nat) := []
def ro5 : List RO := [(.mv (.tmp 4))]
theorem ok5 : okFn Tryd.prog 5 48 ce5 = some (rc5, ro5) := by kernel_rfl
/-! lifeline/lifelinelaw16.ManifestRoom -/
def rc6_0 : RC := (.seq (.run [⟨(some 8), none, (.r (.mv (.tmp 1))), []⟩, ⟨(some 9), none, (.r (.cvi .i64 (.tmp 8))), []⟩, ⟨(some 10), none, (.r (.bin .rem (.tmp 9) (.const (.int .i64 9000)))), []⟩, ⟨(some 11), none, (.r (.fa 4 (.tmp 2))), []⟩, ⟨(some 12), none, (.r (.ld (.tmp 11))), []⟩, ⟨(some 13), none, (.r (.bld [(.string ⟨#[]⟩), (.int .i64 0), (.int .i64 0), (.int .u32 0), (.int .i64 0)] [(2, 1, (.tmp 10)), (4, 1, (.tmp 12))])), []⟩, ⟨(some 5), none, (.e (.al [(.string ⟨#[]⟩), (.int .i64 0), (.int .i64 0), (.int .u32 0), (.int .i64 0)] 36)), []⟩, ⟨none, none, (.e (.st 5 (.tmp 5) (.tmp 13))), []⟩])
  (.seq (.run [⟨(some 14), none, (.r (.ldn 5 (.tmp 2))), []⟩, ⟨(some 16), none, (.r (.ldn 5 (.tmp 2))), []⟩, ⟨(some 15), none, (.c (.fn 16 [(.tmp 14)])), [(16, none, .ldn 5 (.tmp 2))]⟩, ⟨(some 17), none, (.c (.fn 17 [(.tmp 16)])), []⟩, ⟨(some 18), none, (.r (.bin .eql (.tmp 15) (.tmp 17))), []⟩, ⟨(some 19), none, (.r (.mv (.tmp 18))), []⟩, ⟨(some 20), (some (19, true)), (.r (.ldn 5 (.tmp 5))), []⟩, ⟨(some 22), (some (19, true)), (.r (.ldn 5 (.tmp 5))), []⟩, ⟨(some 21), (some (19, true)), (.c (.fn 16 [(.tmp 20)])), [(22, (some (19, true)), .ldn 5 (.tmp 5))]⟩, ⟨(some 23), (some (19, true)), (.c (.fn 17 [(.tmp 22)])), []⟩, ⟨(some 24), (some (19, true)), (.r (.bin .eql (.tmp 21) (.tmp 23))), []⟩, ⟨(some 25), none, (.r (.pick (.tmp 19) (.tmp 24) (.const (.bool false)))), []⟩, ⟨(some 26), none, (.r (.mv (.tmp 25))), []⟩, ⟨(some 27), (some (26, true)), (.r (.ldn 5 (.tmp 5))), []⟩, ⟨(some 29), (some (26, true)), (.r (.fa 2 (.tmp 5))), []⟩, ⟨(some 30), (some (26, true)), (.r (.ld (.tmp 29))), []⟩, ⟨(some 31), (some (26, true)), (.r (.mn (.tmp 30) (.const (.int .i64 8192)))), []⟩, ⟨(some 28), (some (26, true)), (.c (.fn 16 [(.tmp 27)])), [(30, (some (26, true)), .ld (.tmp 29))]⟩, ⟨(some 32), (some (26, true)), (.r (.bin .geq (.tmp 28) (.tmp 31))), []⟩, ⟨(some 33), none, (.r (.pick (.tmp 26) (.tmp 32) (.const (.bool false)))), []⟩, ⟨(some 4), none, (.a (.tmp 33)), []⟩])
  .ret))
def rc6 : RC := (.seq (.run [⟨(some 2), none, (.e (.bx 36 (.tmp 0))), []⟩, ⟨(some 4), none, (.a (.const (.bool false))), []⟩])
  (.seq (.seq (.run [⟨(some 6), none, (.c (.fn 9 [])), []⟩, ⟨(some 7), none, (.r (.not (.tmp 6))), []⟩])
  (.cond (.tmp 7)
  (.seq (.run [⟨(some 4), none, (.a (.const (.bool false))), []⟩])
  .ret)
  .skip))
  rc6_0))
def ce6 : List (Nat × List Nat × List Nat) := [(4, [0, 2, 1, 3, 4, 5, 6, 8, 7, 9, 10, 11, 12, 13, 15, 16, 17, 14, 18, 19, 20], [0, 1, 0, 7, 15, 31, 63, 127, 63, 511, 1023, 2047, 4095, 8191, 16383, 8191, 40959, 106495, 262143, 524287, 1048575])]
def ro6 : List RO := [(.mv (.tmp 4))]
theorem ok6 : okFn Tryd.prog 6 34 ce6 = some (rc6, ro6) := by kernel_rfl
/-! lifeline/lifelinelaw16.ManifestAgain -/
def rc7_0 : RC := (.seq (.run [⟨(some 50), none, (.r (.mv (.tmp 3))), []⟩, ⟨(some 51), none, (.c (.fn 11 [(.tmp 50)])), []⟩, ⟨(some 6), none, (.a (.tmp 51)), []⟩])
  (.seq (.run [⟨(some 53), none, (.r (.mv (.tmp 6))), []⟩, ⟨(some 54), none, (.c (.fn 12 [(.tmp 53)])), []⟩, ⟨(some 52), none, (.r (.mv (.tmp 54))), []⟩, ⟨(some 55), none, (.r (.ext 0 (.tmp 52))), []⟩, ⟨(some 56), none, (.r (.ext 1 (.tmp 52))), []⟩, ⟨(some 7), none, (.a (.tmp 55)), []⟩, ⟨(some 8), none, (.a (.tmp 56)), []⟩])
  (.seq (.run [⟨(some 57), none, (.r (.mv (.tmp 6))), []⟩, ⟨(some 58), none, (.r (.lens (.tmp 57))), []⟩, ⟨(some 59), none, (.r (.bin .gtr (.tmp 58) (.const (.int .i64 4096)))), []⟩, ⟨(some 60), none, (.r (.mv (.tmp 59))), []⟩, ⟨(some 61), (some (60, false)), (.r (.mv (.tmp 8))), []⟩, ⟨(some 62), (some (60, false)), (.r (.eq false (.iface []) (.tmp 61) (.const .nilIface))), []⟩, ⟨(some 63), (some (60, false)), (.r (.mv (.tmp 62))), []⟩, ⟨(some 64), (some (63, true)), (.r (.mv (.tmp 7))), []⟩, ⟨(some 65), (some (63, true)), (.r (.mv (.tmp 3))), []⟩, ⟨(some 66), (some (63, true)), (.c (.fn 14 [(.tmp 64), (.tmp 65)])), []⟩, ⟨(some 67), (some (60, false)), (.r (.pick (.tmp 63) (.tmp 66) (.const (.bool false)))), []⟩, ⟨(some 68), none, (.r (.pick (.tmp 60) (.const (.bool true)) (.tmp 67))), []⟩, ⟨(some 2), none, (.a (.tmp 68)), []⟩])
  .ret)))
def rc7_1 : RC := (.seq (.run [⟨(some 15), none, (.r (.mv (.tmp 0))), []⟩, ⟨(some 16), none, (.c (.fn 12 [(.tmp 15)])), []⟩, ⟨(some 14), none, (.r (.mv (.tmp 16))), []⟩, ⟨(some 17), none, (.r (.ext 0 (.tmp 14))), []⟩, ⟨(some 18), none, (.r (.ext 1 (.tmp 14))), []⟩, ⟨(some 3), none, (.a (.tmp 17)), []⟩, ⟨(some 4), none, (.a (.tmp 18)), []⟩])
  (.seq (.seq (.run [⟨(some 19), none, (.r (.mv (.tmp 4))), []⟩, ⟨(some 20), none, (.r (.eq true (.iface []) (.tmp 19) (.const .nilIface))), []⟩])
  (.cond (.tmp 20)
  (.seq (.run [⟨(some 21), none, (.r (.mv (.tmp 4))), []⟩, ⟨(some 22), none, (.c (.fn 18 [(.tmp 21)])), []⟩, ⟨(some 5), none, (.a (.tmp 22)), []⟩])
  (.seq (.run [⟨(some 23), none, (.r (.mv (.tmp 5))), []⟩, ⟨(some 24), none, (.r (.bin .eql (.tmp 23) (.const (.int .i64 1)))), []⟩, ⟨(some 25), none, (.r (.mv (.tmp 24))), []⟩, ⟨(some 26), (some (25, false)), (.r (.mv (.tmp 5))), []⟩, ⟨(some 27), (some (25, false)), (.r (.bin .eql (.tmp 26) (.const (.int .i64 2)))), []⟩, ⟨(some 28), none, (.r (.pick (.tmp 25) (.const (.bool true)) (.tmp 27))), []⟩, ⟨(some 29), none, (.r (.mv (.tmp 28))), []⟩, ⟨(some 30), (some (29, false)), (.r (.mv (.tmp 5))), []⟩, ⟨(some 31), (some (29, false)), (.r (.bin .eql (.tmp 30) (.const (.int .i64 3)))), []⟩, ⟨(some 32), none, (.r (.pick (.tmp 29) (.const (.bool true)) (.tmp 31))), []⟩, ⟨(some 33), none, (.r (.mv (.tmp 32))), []⟩, ⟨(some 34), (some (33, true)), (.r (.mv (.tmp 4))), []⟩, ⟨(some 35), (some (33, true)), (.c (.fn 19 [(.tmp 34)])), []⟩, ⟨(some 36), (some (33, true)), (.r (.bin .geq (.tmp 35) (.const (.int .i64 0)))), []⟩, ⟨(some 37), none, (.r (.pick (.tmp 33) (.tmp 36) (.const (.bool false)))), []⟩, ⟨(some 38), none, (.r (.mv (.tmp 37))), []⟩, ⟨(some 39), (some (38, true)), (.r (.mv (.tmp 4))), []⟩, ⟨(some 40), (some (38, true)), (.c (.fn 19 [(.tmp 39)])), []⟩, ⟨(some 41), (some (38, true)), (.r (.mv (.tmp 0))), []⟩, ⟨(some 42), (some (38, true)), (.r (.lens (.tmp 41))), []⟩, ⟨(some 43), (some (38, true)), (.r (.bin .leq (.tmp 40) (.tmp 42))), []⟩, ⟨(some 44), none, (.r (.pick (.tmp 38) (.tmp 43) (.const (.bool false)))), []⟩, ⟨(some 45), none, (.r (.mv (.tmp 44))), []⟩, ⟨(some 46), (some (45, true)), (.r (.mv (.tmp 3))), []⟩, ⟨(some 47), (some (45, true)), (.r (.lenl (.tmp 46))), []⟩, ⟨(some 48), (some (45, true)), (.r (.bin .eql (.tmp 47) (.const (.int .i64 0)))), []⟩, ⟨(some 49), none, (.r (.pick (.tmp 45) (.tmp 48) (.const (.bool false)))), []⟩, ⟨(some 2), none, (.a (.tmp 49)), []⟩])
  .ret))
  .skip))
  rc7_0))
def rc7_2 : RC := (.seq (.seq (.run [⟨(some 11), none, (.r (.mv (.tmp 0))), []⟩, ⟨(some 12), none, (.r (.lens (.tmp 11))), []⟩, ⟨(some 13), none, (.r (.bin .gtr (.tmp 12) (.const (.int .i64 3000)))), []⟩])
  (.cond (.tmp 13)
  (.seq (.run [⟨(some 2), none, (.a (.const (.bool true))), []⟩])
  .ret)
  .skip))
  rc7_1)
def rc7 : RC := (.seq (.run [⟨(some 2), none, (.a (.const (.bool false))), []⟩])
  (.seq (.seq (.run [⟨(some 9), none, (.c (.fn 9 [])), []⟩, ⟨(some 10), none, (.r (.not (.tmp 9))), []⟩])
  (.cond (.tmp 10)
  (.seq (.run [⟨(some 2), none, (.a (.const (.bool false))), []⟩])
  .ret)
  .skip))
  rc7_2))
def ce7 : List (Nat × List Nat × List Nat) := []
def ro7 : List RO := [(.mv (.tmp 2))]
theorem ok7 : okFn Tryd.prog 7 69 ce7 = some (rc7, ro7) := by kernel_rfl
/-! lifeline/lifelinelaw16.ManifestCheck -/
def rc8_0 : RC := (.seq (.block 2 (.seq (.run [⟨(some 78), none, (.r (.ia 1 (.tmp 74) (.tmp 76))), []⟩, ⟨(some 79), none, (.r (.ld (.tmp 78))), []⟩, ⟨(some 12), none, (.a (.tmp 79)), []⟩])
  (.seq (.run [⟨(some 81), none, (.r (.mv (.tmp 12))), []⟩, ⟨(some 82), none, (.c (.fn 20 [(.tmp 81)])), []⟩, ⟨(some 80), none, (.r (.mv (.tmp 82))), []⟩, ⟨(some 83), none, (.r (.ext 0 (.tmp 80))), []⟩, ⟨(some 84), none, (.r (.ext 1 (.tmp 80))), []⟩, ⟨(some 13), none, (.a (.tmp 83)), []⟩, ⟨(some 14), none, (.a (.tmp 84)), []⟩])
  (.seq (.run [⟨(some 86), none, (.r (.mv (.tmp 12))), []⟩, ⟨(some 87), none, (.c (.fn 21 [(.tmp 86)])), []⟩, ⟨(some 85), none, (.r (.mv (.tmp 87))), []⟩, ⟨(some 88), none, (.r (.ext 0 (.tmp 85))), []⟩, ⟨(some 89), none, (.r (.ext 1 (.tmp 85))), []⟩, ⟨(some 15), none, (.a (.tmp 88)), []⟩, ⟨(some 16), none, (.a (.tmp 89)), []⟩])
  (.seq (.run [⟨(some 90), none, (.r (.mv (.tmp 13))), []⟩, ⟨(some 91), none, (.r (.mv (.tmp 15))), []⟩, ⟨(some 92), none, (.r (.bin .neq (.tmp 90) (.tmp 91))), []⟩, ⟨(some 93), none, (.r (.mv (.tmp 92))), []⟩, ⟨(some 94), (some (93, false)), (.r (.mv (.tmp 14))), []⟩, ⟨(some 95), (some (93, false)), (.c (.fn 18 [(.tmp 94)])), []⟩, ⟨(some 96), (some (93, false)), (.r (.mv (.tmp 16))), []⟩, ⟨(some 97), (some (93, false)), (.r (.bin .neq (.tmp 95) (.tmp 96))), []⟩, ⟨(some 98), none, (.r (.pick (.tmp 93) (.const (.bool true)) (.tmp 97))), []⟩, ⟨(some 99), none, (.r (.mv (.tmp 98))), []⟩, ⟨(some 100), (some (99, false)), (.r (.mv (.tmp 14))), []⟩, ⟨(some 101), (some (99, false)), (.r (.eq false (.iface []) (.tmp 100) (.const .nilIface))), []⟩, ⟨(some 102), (some (99, false)), (.r (.mv (.tmp 16))), []⟩, ⟨(some 103), (some (99, false)), (.r (.bin .eql (.tmp 102) (.const (.int .i64 0)))), []⟩, ⟨(some 104), (some (99, false)), (.r (.eq true .bool (.tmp 101) (.tmp 103))), []⟩, ⟨(some 105), none, (.r (.pick (.tmp 99) (.const (.bool true)) (.tmp 104))), []⟩])
  (.cond (.tmp 105)
  (.seq (.run [⟨(some 8), none, (.a (.const (.bool false))), []⟩])
  .ret)
  .skip))))))
  (.run [⟨(some 106), none, (.r (.bin .add (.tmp 76) (.const (.int .i64 1)))), []⟩, ⟨(some 76), none, (.r (.mv (.tmp 106))), []⟩]))
def rc8_1 : RC := (.seq (.run [⟨(some 77), none, (.r (.bin .lss (.tmp 76) (.tmp 75))), []⟩])
  (.seq (.cond (.tmp 77)
  .skip
  (.exit 1))
  rc8_0))
def rc8_2 : RC := (.seq (.run [⟨(some 8), none, (.a (.const (.bool true))), []⟩])
  .ret)
def rc8_3 : RC := (.seq (.seq (.run [⟨(some 72), none, (.r (.mv (.tmp 9))), []⟩, ⟨(some 73), none, (.r (.mv (.tmp 3))), []⟩, ⟨(some 74), none, (.e (.bsl 24 1 2 [(.slice none 0 0), (.slice none 0 0)] [(0, 1, (.tmp 72)), (1, 1, (.tmp 73))])), []⟩, ⟨(some 75), none, (.r (.lenl (.tmp 74))), []⟩, ⟨(some 76), none, (.r (.mv (.const (.int .i64 0)))), []⟩])
  (.block 1 (.loop rc8_1)))
  rc8_2)
def rc8_4 : RC := (.seq (.run [⟨(some 19), none, (.r (.mv (.tmp 0))), []⟩, ⟨(some 20), none, (.c (.fn 10 [(.tmp 19)])), []⟩, ⟨(some 9), none, (.a (.tmp 20)), []⟩])
  (.seq (.seq (.run [⟨(some 21), none, (.r (.mv (.tmp 9))), []⟩, ⟨(some 22), none, (.r (.lenl (.tmp 21))), []⟩, ⟨(some 23), none, (.r (.bin .gtr (.tmp 22) (.const (.int .i64 0)))), []⟩])
  (.cond (.tmp 23)
  (.seq (.run [⟨(some 24), none, (.r (.mv (.tmp 9))), []⟩, ⟨(some 25), none, (.r (.mv (.tmp 2))), []⟩, ⟨(some 26), none, (.r (.cvi .i64 (.tmp 25))), []⟩, ⟨(some 27), none, (.r (.mv (.tmp 9))), []⟩, ⟨(some 28), none, (.r (.lenl (.tmp 27))), []⟩, ⟨(some 29), none, (.r (.bin .rem (.tmp 26) (.tmp 28))), []⟩, ⟨(some 30), none, (.r (.ia 5 (.tmp 24) (.tmp 29))), []⟩, ⟨(some 10), none, (.a (.tmp 30)), []⟩])
  (.seq (.run [⟨(some 31), none, (.r (.mv (.tmp 1))), []⟩, ⟨(some 32), none, (.r (.bin .rem (.tmp 31) (.const (.int .u8 8)))), []⟩])
  (.block 0 (.seq (.run [⟨(some 34), none, (.r (.bin .eql (.tmp 32) (.const (.int .u8 0)))), []⟩, ⟨(some 33), none, (.a (.tmp 34)), []⟩])
  (.cond (.tmp 33)
  (.run [⟨(some 35), none, (.r (.mv (.tmp 10))), []⟩, ⟨(some 36), none, (.r (.mv (.tmp 9))), []⟩, ⟨(some 37), none, (.r (.ia 5 (.tmp 36) (.const (.int .i64 0)))), []⟩, ⟨(some 38), none, (.r (.fa 0 (.tmp 37))), []⟩, ⟨(some 39), none, (.r (.ld (.tmp 38))), []⟩, ⟨(some 40), none, (.r (.nck (.tmp 35))), []⟩, ⟨(some 41), none, (.r (.fa 0 (.tmp 40))), []⟩, ⟨none, none, (.e (.st 1 (.tmp 41) (.tmp 39))), []⟩])
  (.seq (.run [⟨(some 43), none, (.r (.bin .eql (.tmp 32) (.const (.int .u8 1)))), []⟩, ⟨(some 42), none, (.a (.tmp 43)), []⟩])
  (.cond (.tmp 42)
  (.run [⟨(some 44), none, (.r (.mv (.tmp 10))), []⟩, ⟨(some 45), none, (.r (.mv (.tmp 2))), []⟩, ⟨(some 46), none, (.r (.cvi .i64 (.tmp 45))), []⟩, ⟨(some 47), none, (.r (.bin .mul (.tmp 46) (.const (.int .i64 40)))), []⟩, ⟨(some 48), none, (.r (.nck (.tmp 44))), []⟩, ⟨(some 49), none, (.r (.fa 2 (.tmp 48))), []⟩, ⟨none, none, (.e (.st 1 (.tmp 49) (.tmp 47))), []⟩])
  (.seq (.run [⟨(some 51), none, (.r (.bin .eql (.tmp 32) (.const (.int .u8 2)))), []⟩, ⟨(some 50), none, (.a (.tmp 51)), []⟩])
  (.cond (.tmp 50)
  (.run [⟨(some 52), none, (.r (.mv (.tmp 10))), []⟩, ⟨(some 53), none, (.r (.mv (.tmp 2))), []⟩, ⟨(some 54), none, (.r (.cvi .i64 (.tmp 53))), []⟩, ⟨(some 55), none, (.r (.bin .mul (.tmp 54) (.const (.int .i64 3)))), []⟩, ⟨(some 56), none, (.r (.bin .sub (.const (.int .i64 16384)) (.tmp 55))), []⟩, ⟨(some 57), none, (.r (.nck (.tmp 52))), []⟩, ⟨(some 58), none, (.r (.fa 1 (.tmp 57))), []⟩, ⟨none, none, (.e (.st 1 (.tmp 58) (.tmp 56))), []⟩])
  (.seq (.run [⟨(some 60), none, (.r (.bin .eql (.tmp 32) (.const (.int .u8 3)))), []⟩, ⟨(some 59), none, (.a (.tmp 60)), []⟩])
  (.cond (.tmp 59)
  (.run [⟨(some 61), none, (.r (.mv (.tmp 10))), []⟩, ⟨(some 62), none, (.r (.mv (.tmp 2))), []⟩, ⟨(some 63), none, (.r (.bin .rem (.tmp 62) (.const (.int .u8 6)))), []⟩, ⟨(some 64), none, (.r (.cvi .i64 (.tmp 63))), []⟩, ⟨(some 65), none, (.r (.nck (.tmp 61))), []⟩, ⟨(some 66), none, (.r (.fa 4 (.tmp 65))), []⟩, ⟨none, none, (.e (.st 1 (.tmp 66) (.tmp 64))), []⟩])
  (.seq (.run [⟨(some 68), none, (.r (.bin .eql (.tmp 32) (.const (.int .u8 4)))), []⟩, ⟨(some 67), none, (.a (.tmp 68)), []⟩])
  (.cond (.tmp 67)
  (.run [⟨(some 69), none, (.r (.mv (.tmp 10))), []⟩, ⟨(some 70), none, (.r (.nck (.tmp 69))), []⟩, ⟨(some 71), none, (.r (.fa 0 (.tmp 70))), []⟩, ⟨none, none, (.e (.st 1 (.tmp 71) (.const (.string ⟨#[49]⟩)))), []⟩])
  .skip)))))))))))))
  .skip))
  rc8_3))
def rc8 : RC := (.seq (.run [⟨(some 8), none, (.a (.const (.bool false))), []⟩])
  (.seq (.seq (.run [⟨(some 17), none, (.c (.fn 9 [])), []⟩, ⟨(some 18), none, (.r (.not (.tmp 17))), []⟩])
  (.cond (.tmp 18)
  (.seq (.run [⟨(some 8), none, (.a (.const (.bool false))), []⟩])
  .ret)
  .skip))
  rc8_4))
def ce8 : List (Nat × List Nat × List Nat) := []
def ro8 : List RO := [(.mv (.tmp 8))]
theorem ok8 : okFn Tryd.prog 8 107 ce8 = some (rc8, ro8) := by kernel_rfl
/-! lifeline/lifelinelaw16.awake -/

def rc9 : RC := (.seq (.run [⟨(some 0), none, (.a (.const (.bool false))), []⟩])
  (.seq (.run [⟨(some 4), none, (.c (.fn 12 [(.const (.string ⟨#[105, 109, 97, 103, 101, 32, 34, 97, 34, 32, 97, 116, 32, 48, 120, 49, 48, 32, 115, 105, 122, 101, 32, 51, 32, 112, 114, 105, 110, 116, 32, 48, 120, 48, 32, 98, 121, 32, 99, 114, 99, 59]⟩))])), []⟩, ⟨(some 3), none, (.r (.mv (.tmp 4))), []⟩, ⟨(some 5), none, (.r (.ext 0 (.tmp 3))), []⟩, ⟨(some 6), none, (.r (.ext 1 (.tmp 3))), []⟩, ⟨(some 1), none, (.a (.tmp 5)), []⟩, ⟨(some 2), none, (.a (.tmp 6)), []⟩])
  (.seq (.run [⟨(some 7), none, (.r (.mv (.tmp 2))), []⟩, ⟨(some 8), none, (.r (.eq false (.iface []) (.tmp 7) (.const .nilIface))), []⟩, ⟨(some 9), none, (.r (.mv (.tmp 8))), []⟩, ⟨(some 10), (some (9, true)), (.r (.mv (.tmp 1))), []⟩, ⟨(some 11), (some (9, true)), (.r (.lenl (.tmp 10))), []⟩, ⟨(some 12), (some (9, true)), (.r (.bin .eql (.tmp 11) (.const (.int .i64 1)))), []⟩, ⟨(some 13), none, (.r (.pick (.tmp 9) (.tmp 12) (.const (.bool false)))), []⟩, ⟨(some 14), none, (.r (.mv (.tmp 13))), []⟩, ⟨(some 15), (some (14, true)), (.r (.mv (.tmp 1))), []⟩, ⟨(some 16), (some (14, true)), (.r (.ia 5 (.tmp 15) (.const (.int .i64 0)))), []⟩, ⟨(some 17), (some (14, true)), (.r (.ldn 5 (.tmp 16))), []⟩, ⟨(some 18), (some (14, true)), (.r (.bld [(.string ⟨#[]⟩), (.int .i64 0), (.int .i64 0), (.int .u32 0), (.int .i64 0)] [(0, 1, (.const (.string ⟨#[97]⟩))), (1, 1, (.const (.int .i64 16))), (2, 1, (.const (.int .i64 3))), (4, 1, (.const (.int .i64 1)))])), []⟩, ⟨(some 19), (some (14, true)), (.r (.eq false (.recd [(0, 0, .str), (1, 0, .int), (2, 0, .int), (3, 0, .int), (4, 0, .int)]) (.tmp 17) (.tmp 18))), []⟩, ⟨(some 20), none, (.r (.pick (.tmp 14) (.tmp 19) (.const (.bool false)))), []⟩, ⟨(some 21), none, (.r (.mv (.tmp 20))), []⟩, ⟨(some 22), (some (21, true)), (.r (.mv (.tmp 1))), []⟩, ⟨(some 23), (some (21, true)), (.c (.fn 11 [(.tmp 22)])), []⟩, ⟨(some 24), (some (21, true)), (.r (.bin .eql (.tmp 23) (.const (.string ⟨#[105, 109, 97, 103, 101, 32, 34, 97, 34, 32, 97, 116, 32, 48, 120, 49, 48, 32, 115, 105, 122, 101, 32, 51, 32, 112, 114, 105, 110, 116, 32, 48, 120, 48, 32, 98, 121, 32, 99, 114, 99, 59, 10]⟩)))), []⟩, ⟨(some 25), none, (.r (.pick (.tmp 21) (.tmp 24) (.const (.bool false)))), []⟩, ⟨(some 0), none, (.a (.tmp 25)), []⟩])
  .ret)))
def ce9 : List (Nat × List Nat × List Nat) := []
def ro9 : List RO := [(.mv (.tmp 0))]
theorem ok9 : okFn Tryd.prog 9 26 ce9 = some (rc9, ro9) := by kernel_rfl
/-! lifeline/lifelinelaw16.Entries -/
def rc10_0 : RC := (.seq (.block 1 (.seq (.run [⟨(some 10), none, (.r (.mv (.tmp 8))), []⟩, ⟨(some 11), none, (.r (.ia 5 (.tmp 6) (.tmp 8))), []⟩, ⟨(some 12), none, (.r (.ldn 5 (.tmp 11))), []⟩, ⟨(some 5), none, (.e (.al [(.slice none 0 0), (.int .u16 0), (.int .u16 0), (.int .u32 0), (.int .u8 0)] 57)), []⟩, ⟨(some 4), none, (.a (.tmp 10)), []⟩, ⟨none, none, (.e (.st 5 (.tmp 5) (.tmp 12))), []⟩])
  (.seq (.run [⟨(some 13), none, (.r (.mv (.tmp 4))), []⟩, ⟨(some 14), none, (.r (.bin .lss (.tmp 13) (.const (.int .i64 8)))), []⟩])
  (.cond (.tmp 14)
  (.run [⟨(some 15), none, (.r (.mv (.tmp 3))), []⟩, ⟨(some 16), none, (.r (.ldn 5 (.tmp 5))), []⟩, ⟨(some 17), none, (.r (.mv (.tmp 4))), []⟩, ⟨(some 18), none, (.c (.fn 22 [(.tmp 16), (.tmp 17)])), []⟩, ⟨(some 19), none, (.e (.bsl 36 5 1 [(.string ⟨#[]⟩), (.int .i64 0), (.int .i64 0), (.int .u32 0), (.int .i64 0)] [(0, 5, (.tmp 18))])), []⟩, ⟨(some 20), none, (.e (.app 36 5 48 (.tmp 15) (.tmp 19))), []⟩, ⟨(some 3), none, (.a (.tmp 20)), []⟩])
  .skip))))
  (.run [⟨(some 21), none, (.r (.bin .add (.tmp 8) (.const (.int .i64 1)))), []⟩, ⟨(some 8), none, (.r (.mv (.tmp 21))), []⟩]))
def rc10_1 : RC := (.seq (.run [⟨(some 9), none, (.r (.bin .lss (.tmp 8) (.tmp 7))), []⟩])
  (.seq (.cond (.tmp 9)
  .skip
  (.exit 0))
  rc10_0))
def rc10_2 : RC := (.seq (.run [⟨(some 22), none, (.r (.mv (.tmp 3))), []⟩, ⟨(some 2), none, (.a (.tmp 22)), []⟩])
  .ret)
def rc10 : RC := (.seq (.run [⟨(some 2), none, (.a (.const (.slice none 0 0))), []⟩])
  (.seq (.run [⟨(some 3), none, (.a (.const (.slice none 0 0))), []⟩])
  (.seq (.seq (.run [⟨(some 6), none, (.r (.mv (.tmp 0))), []⟩, ⟨(some 7), none, (.r (.lenl (.tmp 6))), []⟩, ⟨(some 8), none, (.r (.mv (.const (.int .i64 0)))), []⟩])
  (.block 0 (.loop rc10_1)))
  rc10_2)))
def ce10 : List (Nat × List Nat × List Nat) := []
def ro10 : List RO := [(.mv (.tmp 2))]
theorem ok10 : okFn Tryd.prog 10 23 ce10 = some (rc10, ro10) := by kernel_rfl
/-! lifeline/manifest.Text -/
def rc11_0 : RC := (.seq (.run [⟨(some 29), none, (.r (.fa 0 (.tmp 5))), []⟩, ⟨(some 30), none, (.r (.ld (.tmp 29))), []⟩, ⟨(some 31), none, (.c (.fn 23 [(.tmp 30)])), []⟩, ⟨(some 28), none, (.r (.mv (.tmp 31))), []⟩, ⟨(some 32), none, (.r (.ext 0 (.tmp 28))), []⟩, ⟨(some 33), none, (.r (.ext 1 (.tmp 28))), []⟩, ⟨(some 7), none, (.a (.tmp 32)), []⟩, ⟨(some 8), none, (.a (.tmp 33)), []⟩])
  (.run [⟨(some 34), none, (.r (.mv (.tmp 7))), []⟩, ⟨(some 35), none, (.r (.bin .add (.const (.string ⟨#[105, 109, 97, 103, 101, 32]⟩)) (.tmp 34))), []⟩, ⟨(some 36), none, (.r (.bin .add (.tmp 35) (.const (.string ⟨#[32, 97, 116, 32, 48, 120]⟩)))), []⟩, ⟨(some 37), none, (.r (.fa 1 (.tmp 5))), []⟩, ⟨(some 38), none, (.r (.ld (.tmp 37))), []⟩, ⟨(some 42), none, (.r (.fa 2 (.tmp 5))), []⟩, ⟨(some 43), none, (.r (.ld (.tmp 42))), []⟩, ⟨(some 47), none, (.r (.fa 3 (.tmp 5))), []⟩, ⟨(some 48), none, (.r (.ld (.tmp 47))), []⟩, ⟨(some 49), none, (.r (.cvi .u64 (.tmp 48))), []⟩, ⟨(some 53), none, (.r (.mv (.tmp 6))), []⟩, ⟨(some 39), none, (.c (.fn 25 [(.tmp 38), (.const (.int .i64 16))])), [(43, none, .ld (.tmp 42)), (48, none, .ld (.tmp 47))]⟩, ⟨(some 40), none, (.r (.bin .add (.tmp 36) (.tmp 39))), []⟩, ⟨(some 41), none, (.r (.bin .add (.tmp 40) (.const (.string ⟨#[32, 115, 105, 122, 101, 32]⟩)))), []⟩, ⟨(some 44), none, (.c (.fn 26 [(.tmp 43)])), [(48, none, .ld (.tmp 47))]⟩, ⟨(some 45), none, (.r (.bin .add (.tmp 41) (.tmp 44))), []⟩, ⟨(some 46), none, (.r (.bin .add (.tmp 45) (.const (.string ⟨#[32, 112, 114, 105, 110, 116, 32, 48, 120]⟩)))), []⟩, ⟨(some 50), none, (.c (.fn 27 [(.tmp 49), (.const (.int .i64 16))])), []⟩, ⟨(some 51), none, (.r (.bin .add (.tmp 46) (.tmp 50))), []⟩, ⟨(some 52), none, (.r (.bin .add (.tmp 51) (.const (.string ⟨#[32, 98, 121, 32]⟩)))), []⟩, ⟨(some 54), none, (.r (.bin .add (.tmp 52) (.tmp 53))), []⟩, ⟨(some 55), none, (.r (.bin .add (.tmp 54) (.const (.string ⟨#[59, 10]⟩)))), []⟩, ⟨(some 56), none, (.c (.fn 24 [(.tmp 3), (.tmp 55)])), []⟩]))
def rc11_1 : RC := (.seq (.block 1 (.seq (.run [⟨(some 13), none, (.r (.ia 5 (.tmp 9) (.tmp 11))), []⟩, ⟨(some 14), none, (.r (.ldn 5 (.tmp 13))), []⟩, ⟨(some 5), none, (.e (.al [(.string ⟨#[]⟩), (.int .i64 0), (.int .i64 0), (.int .u32 0), (.int .i64 0)] 36)), []⟩, ⟨none, none, (.e (.st 5 (.tmp 5) (.tmp 14))), []⟩])
  (.seq (.run [⟨(some 6), none, (.a (.const (.string ⟨#[99, 104, 101, 99, 107]⟩))), []⟩])
  (.seq (.seq (.run [⟨(some 15), none, (.r (.fa 4 (.tmp 5))), []⟩, ⟨(some 16), none, (.r (.ld (.tmp 15))), []⟩, ⟨(some 17), none, (.r (.bin .geq (.tmp 16) (.const (.int .i64 0)))), []⟩, ⟨(some 18), none, (.r (.mv (.tmp 17))), []⟩, ⟨(some 19), (some (18, true)), (.r (.fa 4 (.tmp 5))), []⟩, ⟨(some 20), (some (18, true)), (.r (.ld (.tmp 19))), []⟩, ⟨(some 21), (some (18, true)), (.r (.bin .leq (.tmp 20) (.const (.int .i64 3)))), []⟩, ⟨(some 22), none, (.r (.pick (.tmp 18) (.tmp 21) (.const (.bool false)))), []⟩])
  (.cond (.tmp 22)
  (.run [⟨(some 24), none, (.r (.fa 4 (.tmp 5))), []⟩, ⟨(some 25), none, (.r (.ld (.tmp 24))), []⟩, ⟨(some 23), none, (.c (.fn 15 [])), [(25, none, .ld (.tmp 24))]⟩, ⟨(some 26), none, (.r (.ia 1 (.tmp 23) (.tmp 25))), []⟩, ⟨(some 27), none, (.r (.ld (.tmp 26))), []⟩, ⟨(some 6), none, (.a (.tmp 27)), []⟩])
  .skip))
  rc11_0))))
  (.run [⟨(some 57), none, (.r (.bin .add (.tmp 11) (.const (.int .i64 1)))), []⟩, ⟨(some 11), none, (.r (.mv (.tmp 57))), []⟩]))
def rc11_2 : RC := (.seq (.run [⟨(some 12), none, (.r (.bin .lss (.tmp 11) (.tmp 10))), []⟩])
  (.seq (.cond (.tmp 12)
  .skip
  (.exit 0))
  rc11_1))
def rc11_3 : RC := (.seq (.run [⟨(some 58), none, (.c (.fn 28 [(.tmp 3)])), []⟩, ⟨(some 2), none, (.a (.tmp 58)), []⟩])
  .ret)
def rc11 : RC := (.seq (.run [⟨(some 2), none, (.a (.const (.string ⟨#[]⟩))), []⟩])
  (.seq (.run [⟨(some 3), none, (.e (.al [(.pointer none), (.slice none 0 0)] 61)), []⟩])
  (.seq (.seq (.run [⟨(some 9), none, (.r (.mv (.tmp 0))), []⟩, ⟨(some 10), none, (.r (.lenl (.tmp 9))), []⟩, ⟨(some 11), none, (.r (.mv (.const (.int .i64 0)))), []⟩])
  (.block 0 (.loop rc11_2)))
  rc11_3)))
def ce11 : List (Nat × List Nat × List Nat) := [(7, [1, 2, 0, 3, 4, 5], [0, 0, 2, 7, 15, 31]), (9, [0, 1, 2, 3, 4, 8, 9, 13, 14, 15, 19, 5, 6, 7, 10, 11, 12, 16, 17, 18, 20, 21, 22], [0, 1, 3, 0, 8, 24, 63, 127, 0, 256, 824, 2047, 4095, 0, 8192, 24576, 59192, 131071, 262143, 0, 1048575, 2097151, 4194303])]
def ro11 : List RO := [(.mv (.tmp 2))]
theorem ok11 : okFn Tryd.prog 11 59 ce11 = some (rc11, ro11) := by kernel_rfl
/-! lifeline/manifest.Parse -/
def rc12_0 : RC := (.block 1 (.run [⟨(some 38), none, (.r (.mv (.tmp 7))), []⟩, ⟨(some 39), none, (.r (.mv (.tmp 6))), []⟩, ⟨(some 40), none, (.c (.fn 30 [(.tmp 39)])), []⟩, ⟨(some 41), none, (.e (.bsl 36 5 1 [(.string ⟨#[]⟩), (.int .i64 0), (.int .i64 0), (.int .u32 0), (.int .i64 0)] [(0, 5, (.tmp 40))])), []⟩, ⟨(some 42), none, (.e (.app 36 5 48 (.tmp 38) (.tmp 41))), []⟩, ⟨(some 7), none, (.a (.tmp 42)), []⟩]))
def rc12_1 : RC := (.seq (.seq (.run [⟨(some 19), none, (.r (.mv (.tmp 6))), []⟩, ⟨(some 20), none, (.r (.nck (.tmp 19))), []⟩, ⟨(some 21), none, (.r (.fa 2 (.tmp 20))), []⟩, ⟨(some 22), none, (.r (.ld (.tmp 21))), []⟩, ⟨(some 23), none, (.r (.eq false (.iface []) (.tmp 22) (.const .nilIface))), []⟩, ⟨(some 24), none, (.r (.mv (.tmp 23))), []⟩, ⟨(some 25), (some (24, true)), (.r (.mv (.tmp 6))), []⟩, ⟨(some 26), (some (24, true)), (.r (.nck (.tmp 25))), []⟩, ⟨(some 27), (some (24, true)), (.r (.fa 0 (.tmp 26))), []⟩, ⟨(some 28), (some (24, true)), (.r (.ld (.tmp 27))), []⟩, ⟨(some 29), (some (24, true)), (.r (.mv (.tmp 6))), []⟩, ⟨(some 30), (some (24, true)), (.r (.nck (.tmp 29))), []⟩, ⟨(some 31), (some (24, true)), (.r (.fa 1 (.tmp 30))), []⟩, ⟨(some 32), (some (24, true)), (.r (.ld (.tmp 31))), []⟩, ⟨(some 33), (some (24, true)), (.r (.ia 4 (.tmp 28) (.tmp 32))), []⟩, ⟨(some 34), (some (24, true)), (.r (.fa 0 (.tmp 33))), []⟩, ⟨(some 35), (some (24, true)), (.r (.ld (.tmp 34))), []⟩, ⟨(some 36), (some (24, true)), (.r (.bin .neq (.tmp 35) (.const (.int .i64 0)))), []⟩, ⟨(some 37), none, (.r (.pick (.tmp 24) (.tmp 36) (.const (.bool false)))), []⟩])
  (.cond (.tmp 37)
  .skip
  (.exit 0)))
  rc12_0)
def rc12_2 : RC := (.seq (.run [⟨(some 52), none, (.r (.mv (.tmp 7))), []⟩, ⟨(some 2), none, (.a (.tmp 52)), []⟩, ⟨(some 3), none, (.a (.const .nilIface)), []⟩])
  .ret)
def rc12_3 : RC := (.seq (.seq (.run [⟨(some 43), none, (.r (.mv (.tmp 6))), []⟩, ⟨(some 44), none, (.r (.nck (.tmp 43))), []⟩, ⟨(some 45), none, (.r (.fa 2 (.tmp 44))), []⟩, ⟨(some 46), none, (.r (.ld (.tmp 45))), []⟩, ⟨(some 47), none, (.r (.eq true (.iface []) (.tmp 46) (.const .nilIface))), []⟩])
  (.cond (.tmp 47)
  (.seq (.run [⟨(some 48), none, (.r (.mv (.tmp 6))), []⟩, ⟨(some 49), none, (.r (.nck (.tmp 48))), []⟩, ⟨(some 50), none, (.r (.fa 2 (.tmp 49))), []⟩, ⟨(some 51), none, (.r (.ld (.tmp 50))), []⟩, ⟨(some 2), none, (.a (.const (.slice none 0 0))), [(51, none, .ld (.tmp 50))]⟩, ⟨(some 3), none, (.a (.tmp 51)), []⟩])
  .ret)
  .skip))
  rc12_2)
def rc12_4 : RC := (.seq (.run [⟨(some 16), none, (.r (.mv (.tmp 4))), []⟩, ⟨(some 17), none, (.r (.bld [(.slice none 0 0), (.int .i64 0), .nilIface] [(0, 1, (.tmp 16))])), []⟩, ⟨(some 18), none, (.e (.bx 75 (.tmp 17))), []⟩, ⟨(some 6), none, (.a (.tmp 18)), []⟩])
  (.seq (.run [⟨(some 7), none, (.a (.const (.slice none 0 0))), []⟩])
  (.seq (.block 0 (.loop rc12_1))
  rc12_3)))
def rc12 : RC := (.seq (.run [⟨(some 2), none, (.a (.const (.slice none 0 0))), []⟩, ⟨(some 3), none, (.a (.const .nilIface)), []⟩])
  (.seq (.run [⟨(some 9), none, (.r (.mv (.tmp 0))), []⟩, ⟨(some 10), none, (.c (.fn 29 [(.tmp 9)])), []⟩, ⟨(some 8), none, (.r (.mv (.tmp 10))), []⟩, ⟨(some 11), none, (.r (.ext 0 (.tmp 8))), []⟩, ⟨(some 12), none, (.r (.ext 1 (.tmp 8))), []⟩, ⟨(some 4), none, (.a (.tmp 11)), []⟩, ⟨(some 5), none, (.a (.tmp 12)), []⟩])
  (.seq (.seq (.run [⟨(some 13), none, (.r (.mv (.tmp 5))), []⟩, ⟨(some 14), none, (.r (.eq true (.iface []) (.tmp 13) (.const .nilIface))), []⟩])
  (.cond (.tmp 14)
  (.seq (.run [⟨(some 15), none, (.r (.mv (.tmp 5))), []⟩, ⟨(some 2), none, (.a (.const (.slice none 0 0))), []⟩, ⟨(some 3), none, (.a (.tmp 15)), []⟩])
  .ret)
  .skip))
  rc12_4)))
def ce12 : List (Nat × List Nat × List Nat) := [(6, [0, 1, 2, 3, 4, 5, 6, 7, 8, 9, 10, 11, 12, 13, 14, 15, 16, 17, 18], [0, 1, 3, 7, 15, 31, 63, 127, 255, 511, 63, 1087, 3135, 7231, 16383, 32767, 65535, 131071, 262143]), (9, [0, 1, 2, 3, 4, 5], [0, 1, 3, 7, 0, 31])]
def ro12 : List RO := [(.mv (.tmp 2)), (.mv (.tmp 3))]
theorem ok12 : okFn Tryd.prog 12 53 ce12 = some (rc12, ro12) := by kernel_rfl
/-! lifeline/lifelinelaw16.text -/
def rc13_0 : RC := (.seq (.run [⟨(some 29), none, (.r (.fa 0 (.tmp 5))), []⟩, ⟨(some 30), none, (.r (.ld (.tmp 29))), []⟩, ⟨(some 31), none, (.c (.fn 23 [(.tmp 30)])), []⟩, ⟨(some 28), none, (.r (.mv (.tmp 31))), []⟩, ⟨(some 32), none, (.r (.ext 0 (.tmp 28))), []⟩, ⟨(some 33), none, (.r (.ext 1 (.tmp 28))), []⟩, ⟨(some 7), none, (.a (.tmp 32)), []⟩, ⟨(some 8), none, (.a (.tmp 33)), []⟩])
  (.run [⟨(some 34), none, (.r (.mv (.tmp 3))), []⟩, ⟨(some 35), none, (.r (.bin .add (.tmp 34) (.const (.string ⟨#[105, 109, 97, 103, 101, 32]⟩)))), []⟩, ⟨(some 36), none, (.r (.mv (.tmp 7))), []⟩, ⟨(some 37), none, (.r (.bin .add (.tmp 35) (.tmp 36))), []⟩, ⟨(some 38), none, (.r (.bin .add (.tmp 37) (.const (.string ⟨#[32, 97, 116, 32, 48, 120]⟩)))), []⟩, ⟨(some 39), none, (.r (.fa 1 (.tmp 5))), []⟩, ⟨(some 40), none, (.r (.ld (.tmp 39))), []⟩, ⟨(some 44), none, (.r (.fa 2 (.tmp 5))), []⟩, ⟨(some 45), none, (.r (.ld (.tmp 44))), []⟩, ⟨(some 49), none, (.r (.fa 3 (.tmp 5))), []⟩, ⟨(some 50), none, (.r (.ld (.tmp 49))), []⟩, ⟨(some 51), none, (.r (.cvi .i64 (.tmp 50))), []⟩, ⟨(some 55), none, (.r (.mv (.tmp 6))), []⟩, ⟨(some 41), none, (.c (.fn 31 [(.tmp 40), (.const (.int .i64 16))])), [(45, none, .ld (.tmp 44)), (50, none, .ld (.tmp 49))]⟩, ⟨(some 42), none, (.r (.bin .add (.tmp 38) (.tmp 41))), []⟩, ⟨(some 43), none, (.r (.bin .add (.tmp 42) (.const (.string ⟨#[32, 115, 105, 122, 101, 32]⟩)))), []⟩, ⟨(some 46), none, (.c (.fn 31 [(.tmp 45), (.const (.int .i64 10))])), [(50, none, .ld (.tmp 49))]⟩, ⟨(some 47), none, (.r (.bin .add (.tmp 43) (.tmp 46))), []⟩, ⟨(some 48), none, (.r (.bin .add (.tmp 47) (.const (.string ⟨#[32, 112, 114, 105, 110, 116, 32, 48, 120]⟩)))), []⟩, ⟨(some 52), none, (.c (.fn 31 [(.tmp 51), (.const (.int .i64 16))])), []⟩, ⟨(some 53), none, (.r (.bin .add (.tmp 48) (.tmp 52))), []⟩, ⟨(some 54), none, (.r (.bin .add (.tmp 53) (.const (.string ⟨#[32, 98, 121, 32]⟩)))), []⟩, ⟨(some 56), none, (.r (.bin .add (.tmp 54) (.tmp 55))), []⟩, ⟨(some 57), none, (.r (.bin .add (.tmp 56) (.const (.string ⟨#[59, 10]⟩)))), []⟩, ⟨(some 3), none, (.a (.tmp 57)), []⟩]))
def rc13_1 : RC := (.seq (.block 1 (.seq (.run [⟨(some 13), none, (.r (.ia 5 (.tmp 9) (.tmp 11))), []⟩, ⟨(some 14), none, (.r (.ldn 5 (.tmp 13))), []⟩, ⟨(some 5), none, (.e (.al [(.string ⟨#[]⟩), (.int .i64 0), (.int .i64 0), (.int .u32 0), (.int .i64 0)] 36)), []⟩, ⟨none, none, (.e (.st 5 (.tmp 5) (.tmp 14))), []⟩])
  (.seq (.run [⟨(some 6), none, (.a (.const (.string ⟨#[99, 104, 101, 99, 107]⟩))), []⟩])
  (.seq (.seq (.run [⟨(some 15), none, (.r (.fa 4 (.tmp 5))), []⟩, ⟨(some 16), none, (.r (.ld (.tmp 15))), []⟩, ⟨(some 17), none, (.r (.bin .gtr (.tmp 16) (.const (.int .i64 0)))), []⟩, ⟨(some 18), none, (.r (.mv (.tmp 17))), []⟩, ⟨(some 19), (some (18, true)), (.r (.fa 4 (.tmp 5))), []⟩, ⟨(some 20), (some (18, true)), (.r (.ld (.tmp 19))), []⟩, ⟨(some 21), (some (18, true)), (.r (.bin .lss (.tmp 20) (.const (.int .i64 4)))), []⟩, ⟨(some 22), none, (.r (.pick (.tmp 18) (.tmp 21) (.const (.bool false)))), []⟩])
  (.cond (.tmp 22)
  (.run [⟨(some 23), none, (.e (.bsl 9 1 4 [(.string ⟨#[]⟩), (.string ⟨#[]⟩), (.string ⟨#[]⟩), (.string ⟨#[]⟩)] [(0, 1, (.const (.string ⟨#[]⟩))), (1, 1, (.const (.string ⟨#[99, 114, 99]⟩))), (2, 1, (.const (.string ⟨#[108, 97, 114, 103, 101]⟩))), (3, 1, (.const (.string ⟨#[98, 97, 116, 99, 104]⟩)))])), []⟩, ⟨(some 24), none, (.r (.fa 4 (.tmp 5))), []⟩, ⟨(some 25), none, (.r (.ld (.tmp 24))), []⟩, ⟨(some 26), none, (.r (.ia 1 (.tmp 23) (.tmp 25))), []⟩, ⟨(some 27), none, (.r (.ld (.tmp 26))), []⟩, ⟨(some 6), none, (.a (.tmp 27)), []⟩])
  .skip))
  rc13_0))))
  (.run [⟨(some 58), none, (.r (.bin .add (.tmp 11) (.const (.int .i64 1)))), []⟩, ⟨(some 11), none, (.r (.mv (.tmp 58))), []⟩]))
def rc13_2 : RC := (.seq (.run [⟨(some 12), none, (.r (.bin .lss (.tmp 11) (.tmp 10))), []⟩])
  (.seq (.cond (.tmp 12)
  .skip
  (.exit 0))
  rc13_1))
def rc13_3 : RC := (.seq (.run [⟨(some 59), none, (.r (.mv (.tmp 3))), []⟩, ⟨(some 2), none, (.a (.tmp 59)), []⟩])
  .ret)
def rc13 : RC := (.seq (.run [⟨(some 2), none, (.a (.const (.string ⟨#[]⟩))), []⟩])
  (.seq (.run [⟨(some 3), none, (.a (.const (.string ⟨#[]⟩))), []⟩])
  (.seq (.seq (.run [⟨(some 9), none, (.r (.mv (.tmp 0))), []⟩, ⟨(some 10), none, (.r (.lenl (.tmp 9))), []⟩, ⟨(some 11), none, (.r (.mv (.const (.int .i64 0)))), []⟩])
  (.block 0 (.loop rc13_2)))
  rc13_3)))
def ce13 : List (Nat × List Nat × List Nat) := [(9, [0, 1, 2, 3, 4, 5, 6, 10, 11, 15, 16, 17, 21, 7, 8, 9, 12, 13, 14, 18, 19, 20, 22, 23, 24], [0, 1, 0, 7, 15, 0, 32, 96, 255, 511, 0, 1024, 3296, 8191, 16383, 0, 32768, 98304, 236768, 524287, 1048575, 0, 4194303, 8388607, 16777215])]
def ro13 : List RO := [(.mv (.tmp 2))]
theorem ok13 : okFn Tryd.prog 13 60 ce13 = some (rc13, ro13) := by kernel_rfl
/-! lifeline/lifelinelaw16.Same -/
def rc14_0 : RC := (.seq (.block 1 (.seq (.run [⟨(some 15), none, (.r (.mv (.tmp 13))), []⟩, ⟨(some 5), none, (.a (.tmp 15)), []⟩])
  (.seq (.run [⟨(some 16), none, (.r (.mv (.tmp 0))), []⟩, ⟨(some 17), none, (.r (.mv (.tmp 5))), []⟩, ⟨(some 18), none, (.r (.ia 5 (.tmp 16) (.tmp 17))), []⟩, ⟨(some 19), none, (.r (.ldn 5 (.tmp 18))), []⟩, ⟨(some 20), none, (.r (.mv (.tmp 1))), []⟩, ⟨(some 21), none, (.r (.mv (.tmp 5))), []⟩, ⟨(some 22), none, (.r (.ia 5 (.tmp 20) (.tmp 21))), []⟩, ⟨(some 23), none, (.r (.ldn 5 (.tmp 22))), []⟩, ⟨(some 24), none, (.r (.eq true (.recd [(0, 0, .str), (1, 0, .int), (2, 0, .int), (3, 0, .int), (4, 0, .int)]) (.tmp 19) (.tmp 23))), []⟩])
  (.cond (.tmp 24)
  (.seq (.run [⟨(some 4), none, (.a (.const (.bool false))), []⟩])
  .ret)
  .skip))))
  (.run [⟨(some 25), none, (.r (.bin .add (.tmp 13) (.const (.int .i64 1)))), []⟩, ⟨(some 13), none, (.r (.mv (.tmp 25))), []⟩]))
def rc14_1 : RC := (.seq (.run [⟨(some 14), none, (.r (.bin .lss (.tmp 13) (.tmp 12))), []⟩])
  (.seq (.cond (.tmp 14)
  .skip
  (.exit 0))
  rc14_0))
def rc14_2 : RC := (.seq (.run [⟨(some 4), none, (.a (.const (.bool true))), []⟩])
  .ret)
def rc14_3 : RC := (.seq (.seq (.run [⟨(some 11), none, (.r (.mv (.tmp 0))), []⟩, ⟨(some 12), none, (.r (.lenl (.tmp 11))), []⟩, ⟨(some 13), none, (.r (.mv (.const (.int .i64 0)))), []⟩])
  (.block 0 (.loop rc14_1)))
  rc14_2)
def rc14 : RC := (.seq (.run [⟨(some 4), none, (.a (.const (.bool false))), []⟩])
  (.seq (.seq (.run [⟨(some 6), none, (.r (.mv (.tmp 0))), []⟩, ⟨(some 7), none, (.r (.lenl (.tmp 6))), []⟩, ⟨(some 8), none, (.r (.mv (.tmp 1))), []⟩, ⟨(some 9), none, (.r (.lenl (.tmp 8))), []⟩, ⟨(some 10), none, (.r (.bin .neq (.tmp 7) (.tmp 9))), []⟩])
  (.cond (.tmp 10)
  (.seq (.run [⟨(some 4), none, (.a (.const (.bool false))), []⟩])
  .ret)
  .skip))
  rc14_3))
def ce14 : List (Nat × List Nat × List Nat) := [(6, [0, 1, 2, 3, 4, 5, 6, 7, 8], [0, 0, 3, 7, 0, 0, 48, 112, 255])]
def ro14 : List RO := [(.mv (.tmp 4))]
theorem ok14 : okFn Tryd.prog 14 26 ce14 = some (rc14, ro14) := by kernel_rfl
/-! lifeline/manifest.Ways -/

def rc15 : RC := (.seq (.run [⟨(some 0), none, (.a (.const (.slice none 0 0))), []⟩])
  (.seq (.run [⟨(some 1), none, (.e (.bsl 9 1 4 [(.string ⟨#[]⟩), (.string ⟨#[]⟩), (.string ⟨#[]⟩), (.string ⟨#[]⟩)] [(0, 1, (.const (.string ⟨#[99, 104, 101, 99, 107]⟩))), (1, 1, (.const (.string ⟨#[99, 114, 99]⟩))), (2, 1, (.const (.string ⟨#[108, 97, 114, 103, 101]⟩))), (3, 1, (.const (.string ⟨#[98, 97, 116, 99, 104]⟩)))])), []⟩, ⟨(some 0), none, (.a (.tmp 1)), []⟩])
  .ret))
def ce15 : List (Nat × List Nat × List Nat) := []
def ro15 : List RO := [(.mv (.tmp 0))]
theorem ok15 : okFn Tryd.prog 15 2 ce15 = some (rc15, ro15) := by kernel_rfl
/-! lifeline/manifest.Room -/
def rc16_0 : RC := (.seq (.run [⟨(some 20), none, (.r (.fa 2 (.tmp 1))), []⟩, ⟨(some 21), none, (.r (.ld (.tmp 20))), []⟩, ⟨(some 22), none, (.r (.bin .add (.tmp 21) (.const (.int .i64 128)))), []⟩, ⟨(some 23), none, (.r (.bin .sub (.tmp 22) (.const (.int .i64 1)))), []⟩, ⟨(some 24), none, (.r (.bin .quo (.tmp 23) (.const (.int .i64 128)))), []⟩, ⟨(some 25), none, (.r (.bin .mul (.tmp 24) (.const (.int .i64 128)))), []⟩, ⟨(some 2), none, (.a (.tmp 25)), []⟩])
  .ret)
def rc16 : RC := (.seq (.run [⟨(some 1), none, (.e (.bx 36 (.tmp 0))), []⟩, ⟨(some 2), none, (.a (.const (.int .i64 0))), []⟩])
  (.seq (.seq (.run [⟨(some 3), none, (.r (.fa 4 (.tmp 1))), []⟩, ⟨(some 4), none, (.r (.ld (.tmp 3))), []⟩, ⟨(some 5), none, (.r (.bin .eql (.tmp 4) (.const (.int .i64 3)))), []⟩, ⟨(some 6), none, (.r (.mv (.tmp 5))), []⟩, ⟨(some 7), (some (6, false)), (.r (.fa 2 (.tmp 1))), []⟩, ⟨(some 8), (some (6, false)), (.r (.ld (.tmp 7))), []⟩, ⟨(some 9), (some (6, false)), (.r (.bin .lss (.tmp 8) (.const (.int .i64 0)))), []⟩, ⟨(some 10), none, (.r (.pick (.tmp 6) (.const (.bool true)) (.tmp 9))), []⟩, ⟨(some 11), none, (.r (.mv (.tmp 10))), []⟩, ⟨(some 12), (some (11, false)), (.r (.fa 2 (.tmp 1))), []⟩, ⟨(some 13), (some (11, false)), (.r (.ld (.tmp 12))), []⟩, ⟨(some 14), (some (11, false)), (.r (.bin .gtr (.tmp 13) (.const (.int .i64 8192)))), []⟩, ⟨(some 15), none, (.r (.pick (.tmp 11) (.const (.bool true)) (.tmp 14))), []⟩])
  (.cond (.tmp 15)
  (.seq (.run [⟨(some 16), none, (.r (.fa 2 (.tmp 1))), []⟩, ⟨(some 17), none, (.r (.ld (.tmp 16))), []⟩, ⟨(some 18), none, (.r (.mn (.tmp 17) (.const (.int .i64 8192)))), []⟩, ⟨(some 19), none, (.r (.mx (.const (.int .i64 0)) (.tmp 18))), []⟩, ⟨(some 2), none, (.a (.tmp 19)), []⟩])
  .ret)
  .skip))
  rc16_0))
def ce16 : List (Nat × List Nat × List Nat) := []
def ro16 : List RO := [(.mv (.tmp 2))]
theorem ok16 : okFn Tryd.prog 16 26 ce16 = some (rc16, ro16) := by kernel_rfl
/-! lifeline/lifelinelaw16.room -/
def rc17_0 : RC := (.block 1 (.run [⟨(some 21), none, (.r (.mv (.tmp 3))), []⟩, ⟨(some 22), none, (.r (.bin .add (.tmp 21) (.const (.int .i64 1)))), []⟩, ⟨(some 3), none, (.a (.tmp 22)), []⟩]))
def rc17_1 : RC := (.seq (.seq (.run [⟨(some 18), none, (.r (.mv (.tmp 3))), []⟩, ⟨(some 19), none, (.r (.bin .rem (.tmp 18) (.const (.int .i64 128)))), []⟩, ⟨(some 20), none, (.r (.bin .neq (.tmp 19) (.const (.int .i64 0)))), []⟩])
  (.cond (.tmp 20)
  .skip
  (.exit 0)))
  rc17_0)
def rc17_2 : RC := (.seq (.run [⟨(some 23), none, (.r (.mv (.tmp 3))), []⟩, ⟨(some 2), none, (.a (.tmp 23)), []⟩])
  .ret)
def rc17_3 : RC := (.seq (.block 0 (.loop rc17_1))
  rc17_2)
def rc17 : RC := (.seq (.run [⟨(some 1), none, (.e (.bx 36 (.tmp 0))), []⟩, ⟨(some 2), none, (.a (.const (.int .i64 0))), []⟩])
  (.seq (.run [⟨(some 4), none, (.r (.fa 2 (.tmp 1))), []⟩, ⟨(some 5), none, (.r (.ld (.tmp 4))), []⟩, ⟨(some 6), none, (.r (.mn (.const (.int .i64 8192)) (.tmp 5))), []⟩, ⟨(some 7), none, (.r (.mx (.const (.int .i64 0)) (.tmp 6))), []⟩, ⟨(some 3), none, (.a (.tmp 7)), []⟩])
  (.seq (.seq (.run [⟨(some 8), none, (.r (.fa 4 (.tmp 1))), []⟩, ⟨(some 9), none, (.r (.ld (.tmp 8))), []⟩, ⟨(some 10), none, (.r (.bin .eql (.tmp 9) (.const (.int .i64 3)))), []⟩, ⟨(some 11), none, (.r (.mv (.tmp 10))), []⟩, ⟨(some 12), (some (11, false)), (.r (.mv (.tmp 3))), []⟩, ⟨(some 13), (some (11, false)), (.r (.fa 2 (.tmp 1))), []⟩, ⟨(some 14), (some (11, false)), (.r (.ld (.tmp 13))), []⟩, ⟨(some 15), (some (11, false)), (.r (.bin .neq (.tmp 12) (.tmp 14))), []⟩, ⟨(some 16), none, (.r (.pick (.tmp 11) (.const (.bool true)) (.tmp 15))), []⟩])
  (.cond (.tmp 16)
  (.seq (.run [⟨(some 17), none, (.r (.mv (.tmp 3))), []⟩, ⟨(some 2), none, (.a (.tmp 17)), []⟩])
  .ret)
  .skip))
  rc17_3)))
def ce17 : List (Nat × List Nat × List Nat) := []
def ro17 : List RO := [(.mv (.tmp 2))]
theorem ok17 : okFn Tryd.prog 17 24 ce17 = some (rc17, ro17) := by kernel_rfl
/-! lifeline/api.Number -/
def rc18_0 : RC := (.seq (.run [⟨(some 2), none, (.a (.const (.int .i64 0))), []⟩])
  .ret)
def rc18 : RC := (.seq (.run [⟨(some 2), none, (.a (.const (.int .i64 0))), []⟩])
  (.seq (.run [⟨(some 3), none, (.e (.al [(.int .i64 0)] 44)), []⟩])
  (.seq (.seq (.run [⟨(some 4), none, (.r (.mv (.tmp 0))), []⟩, ⟨(some 5), none, (.r (.mki 82 (.tmp 3))), []⟩, ⟨(some 6), none, (.c (.fn 32 [(.tmp 4), (.tmp 5)])), []⟩])
  (.cond (.tmp 6)
  (.seq (.run [⟨(some 7), none, (.r (.ld (.tmp 3))), []⟩, ⟨(some 2), none, (.a (.tmp 7)), []⟩])
  .ret)
  .skip))
  rc18_0)))
def ce18 : List (Nat × List Nat × List Nat) := []
def ro18 : List RO := [(.mv (.tmp 2))]
theorem ok18 : okFn Tryd.prog 18 8 ce18 = some (rc18, ro18) := by kernel_rfl
/-! lifeline/api.Place -/
def rc19_0 : RC := (.seq (.run [⟨(some 2), none, (.a (.const (.int .i64 (-1)))), []⟩])
  .ret)
def rc19 : RC := (.seq (.run [⟨(some 2), none, (.a (.const (.int .i64 0))), []⟩])
  (.seq (.run [⟨(some 3), none, (.e (.al [(.int .i64 0), (.int .i64 0)] 84)), []⟩])
  (.seq (.seq (.run [⟨(some 4), none, (.r (.mv (.tmp 0))), []⟩, ⟨(some 5), none, (.r (.mki 85 (.tmp 3))), []⟩, ⟨(some 6), none, (.c (.fn 32 [(.tmp 4), (.tmp 5)])), []⟩])
  (.cond (.tmp 6)
  (.seq (.run [⟨(some 7), none, (.r (.fa 1 (.tmp 3))), []⟩, ⟨(some 8), none, (.r (.ld (.tmp 7))), []⟩, ⟨(some 2), none, (.a (.tmp 8)), []⟩])
  .ret)
  .skip))
  rc19_0)))
def ce19 : List (Nat × List Nat × List Nat) := []
def ro19 : List RO := [(.mv (.tmp 2))]
theorem ok19 : okFn Tryd.prog 19 9 ce19 = some (rc19, ro19) := by kernel_rfl
/-! lifeline/manifest.Check -/
def rc20_0 : RC := (.seq (.block 3 (.seq (.run [⟨(some 38), none, (.r (.ia 5 (.tmp 34) (.tmp 36))), []⟩, ⟨(some 39), none, (.r (.ldn 5 (.tmp 38))), []⟩, ⟨(some 7), none, (.e (.al [(.string ⟨#[]⟩), (.int .i64 0), (.int .i64 0), (.int .u32 0), (.int .i64 0)] 36)), []⟩, ⟨none, none, (.e (.st 5 (.tmp 7) (.tmp 39))), []⟩])
  (.seq (.run [⟨(some 40), none, (.r (.fa 0 (.tmp 7))), []⟩, ⟨(some 41), none, (.r (.ld (.tmp 40))), []⟩, ⟨(some 42), none, (.r (.fa 0 (.tmp 5))), []⟩, ⟨(some 43), none, (.r (.ld (.tmp 42))), []⟩, ⟨(some 44), none, (.r (.bin .eql (.tmp 41) (.tmp 43))), []⟩])
  (.cond (.tmp 44)
  (.seq (.run [⟨(some 45), none, (.r (.mv (.tmp 4))), []⟩, ⟨(some 46), none, (.r (.mki 44 (.const (.int .i64 4)))), []⟩, ⟨(some 2), none, (.a (.tmp 45)), []⟩, ⟨(some 3), none, (.a (.tmp 46)), []⟩])
  .ret)
  .skip))))
  (.run [⟨(some 47), none, (.r (.bin .add (.tmp 36) (.const (.int .i64 1)))), []⟩, ⟨(some 36), none, (.r (.mv (.tmp 47))), []⟩]))
def rc20_1 : RC := (.seq (.run [⟨(some 37), none, (.r (.bin .lss (.tmp 36) (.tmp 35))), []⟩])
  (.seq (.cond (.tmp 37)
  .skip
  (.exit 2))
  rc20_0))
def rc20_2 : RC := (.seq (.block 5 (.seq (.run [⟨(some 87), none, (.r (.ia 5 (.tmp 83) (.tmp 85))), []⟩, ⟨(some 88), none, (.r (.ldn 5 (.tmp 87))), []⟩, ⟨(some 9), none, (.e (.al [(.string ⟨#[]⟩), (.int .i64 0), (.int .i64 0), (.int .u32 0), (.int .i64 0)] 36)), []⟩, ⟨none, none, (.e (.st 5 (.tmp 9) (.tmp 88))), []⟩])
  (.seq (.run [⟨(some 89), none, (.r (.fa 1 (.tmp 5))), []⟩, ⟨(some 90), none, (.r (.ld (.tmp 89))), []⟩, ⟨(some 91), none, (.r (.fa 1 (.tmp 9))), []⟩, ⟨(some 92), none, (.r (.ld (.tmp 91))), []⟩, ⟨(some 93), none, (.r (.ldn 5 (.tmp 9))), []⟩, ⟨(some 94), none, (.c (.fn 16 [(.tmp 93)])), [(90, none, .ld (.tmp 89)), (92, none, .ld (.tmp 91))]⟩, ⟨(some 95), none, (.r (.bin .add (.tmp 92) (.tmp 94))), []⟩, ⟨(some 96), none, (.r (.bin .lss (.tmp 90) (.tmp 95))), []⟩, ⟨(some 97), none, (.r (.mv (.tmp 96))), []⟩, ⟨(some 98), (some (97, true)), (.r (.fa 1 (.tmp 9))), []⟩, ⟨(some 99), (some (97, true)), (.r (.ld (.tmp 98))), []⟩, ⟨(some 100), (some (97, true)), (.r (.fa 1 (.tmp 5))), []⟩, ⟨(some 101), (some (97, true)), (.r (.ld (.tmp 100))), []⟩, ⟨(some 102), (some (97, true)), (.r (.ldn 5 (.tmp 5))), []⟩, ⟨(some 103), (some (97, true)), (.c (.fn 16 [(.tmp 102)])), [(99, (some (97, true)), .ld (.tmp 98)), (101, (some (97, true)), .ld (.tmp 100))]⟩, ⟨(some 104), (some (97, true)), (.r (.bin .add (.tmp 101) (.tmp 103))), []⟩, ⟨(some 105), (some (97, true)), (.r (.bin .lss (.tmp 99) (.tmp 104))), []⟩, ⟨(some 106), none, (.r (.pick (.tmp 97) (.tmp 105) (.const (.bool false)))), []⟩])
  (.cond (.tmp 106)
  (.seq (.run [⟨(some 107), none, (.r (.mv (.tmp 4))), []⟩, ⟨(some 108), none, (.r (.mki 44 (.const (.int .i64 6)))), []⟩, ⟨(some 2), none, (.a (.tmp 107)), []⟩, ⟨(some 3), none, (.a (.tmp 108)), []⟩])
  .ret)
  .skip))))
  (.run [⟨(some 109), none, (.r (.bin .add (.tmp 85) (.const (.int .i64 1)))), []⟩, ⟨(some 85), none, (.r (.mv (.tmp 109))), []⟩]))
def rc20_3 : RC := (.seq (.run [⟨(some 86), none, (.r (.bin .lss (.tmp 85) (.tmp 84))), []⟩])
  (.seq (.cond (.tmp 86)
  .skip
  (.exit 4))
  rc20_2))
def rc20_4 : RC := (.seq (.run [⟨(some 81), none, (.r (.mv (.tmp 0))), []⟩, ⟨(some 82), none, (.r (.mv (.tmp 4))), []⟩, ⟨(some 83), none, (.r (.sl 5 (.tmp 81) none (some (.tmp 82)))), []⟩, ⟨(some 84), none, (.r (.lenl (.tmp 83))), []⟩, ⟨(some 85), none, (.r (.mv (.const (.int .i64 0)))), []⟩])
  (.block 4 (.loop rc20_3)))
def rc20_5 : RC := (.seq (.seq (.run [⟨(some 48), none, (.r (.fa 1 (.tmp 5))), []⟩, ⟨(some 49), none, (.r (.ld (.tmp 48))), []⟩, ⟨(some 50), none, (.r (.bin .lss (.tmp 49) (.const (.int .i64 0)))), []⟩, ⟨(some 51), none, (.r (.mv (.tmp 50))), []⟩, ⟨(some 52), (some (51, false)), (.r (.fa 2 (.tmp 5))), []⟩, ⟨(some 53), (some (51, false)), (.r (.ld (.tmp 52))), []⟩, ⟨(some 54), (some (51, false)), (.r (.bin .lss (.tmp 53) (.const (.int .i64 1)))), []⟩, ⟨(some 55), none, (.r (.pick (.tmp 51) (.const (.bool true)) (.tmp 54))), []⟩, ⟨(some 56), none, (.r (.mv (.tmp 55))), []⟩, ⟨(some 57), (some (56, false)), (.r (.fa 2 (.tmp 5))), []⟩, ⟨(some 58), (some (56, false)), (.r (.ld (.tmp 57))), []⟩, ⟨(some 59), (some (56, false)), (.r (.bin .gtr (.tmp 58) (.const (.int .i64 8192)))), []⟩, ⟨(some 60), none, (.r (.pick (.tmp 56) (.const (.bool true)) (.tmp 59))), []⟩, ⟨(some 61), none, (.r (.mv (.tmp 60))), []⟩, ⟨(some 62), (some (61, false)), (.r (.fa 1 (.tmp 5))), []⟩, ⟨(some 63), (some (61, false)), (.r (.ld (.tmp 62))), []⟩, ⟨(some 64), (some (61, false)), (.r (.ldn 5 (.tmp 5))), []⟩, ⟨(some 65), (some (61, false)), (.c (.fn 16 [(.tmp 64)])), [(63, (some (61, false)), .ld (.tmp 62))]⟩, ⟨(some 66), (some (61, false)), (.r (.bin .sub (.const (.int .i64 16384)) (.tmp 65))), []⟩, ⟨(some 67), (some (61, false)), (.r (.bin .gtr (.tmp 63) (.tmp 66))), []⟩, ⟨(some 68), none, (.r (.pick (.tmp 61) (.const (.bool true)) (.tmp 67))), []⟩, ⟨(some 69), none, (.r (.mv (.tmp 68))), []⟩, ⟨(some 70), (some (69, false)), (.r (.fa 4 (.tmp 5))), []⟩, ⟨(some 71), (some (69, false)), (.r (.ld (.tmp 70))), []⟩, ⟨(some 72), (some (69, false)), (.r (.bin .lss (.tmp 71) (.const (.int .i64 0)))), []⟩, ⟨(some 73), none, (.r (.pick (.tmp 69) (.const (.bool true)) (.tmp 72))), []⟩, ⟨(some 74), none, (.r (.mv (.tmp 73))), []⟩, ⟨(some 75), (some (74, false)), (.r (.fa 4 (.tmp 5))), []⟩, ⟨(some 76), (some (74, false)), (.r (.ld (.tmp 75))), []⟩, ⟨(some 77), (some (74, false)), (.r (.bin .gtr (.tmp 76) (.const (.int .i64 3)))), []⟩, ⟨(some 78), none, (.r (.pick (.tmp 74) (.const (.bool true)) (.tmp 77))), []⟩])
  (.cond (.tmp 78)
  (.seq (.run [⟨(some 79), none, (.r (.mv (.tmp 4))), []⟩, ⟨(some 80), none, (.r (.mki 44 (.const (.int .i64 5)))), []⟩, ⟨(some 2), none, (.a (.tmp 79)), []⟩, ⟨(some 3), none, (.a (.tmp 80)), []⟩])
  .ret)
  .skip))
  rc20_4)
def rc20_6 : RC := (.seq (.seq (.run [⟨(some 32), none, (.r (.mv (.tmp 0))), []⟩, ⟨(some 33), none, (.r (.mv (.tmp 4))), []⟩, ⟨(some 34), none, (.r (.sl 5 (.tmp 32) none (some (.tmp 33)))), []⟩, ⟨(some 35), none, (.r (.lenl (.tmp 34))), []⟩, ⟨(some 36), none, (.r (.mv (.const (.int .i64 0)))), []⟩])
  (.block 2 (.loop rc20_1)))
  rc20_5)
def rc20_7 : RC := (.seq (.block 1 (.seq (.run [⟨(some 23), none, (.r (.mv (.tmp 21))), []⟩, ⟨(some 24), none, (.r (.ia 5 (.tmp 19) (.tmp 21))), []⟩, ⟨(some 25), none, (.r (.ldn 5 (.tmp 24))), []⟩, ⟨(some 5), none, (.e (.al [(.string ⟨#[]⟩), (.int .i64 0), (.int .i64 0), (.int .u32 0), (.int .i64 0)] 36)), []⟩, ⟨(some 4), none, (.a (.tmp 23)), []⟩, ⟨none, none, (.e (.st 5 (.tmp 5) (.tmp 25))), []⟩])
  (.seq (.seq (.run [⟨(some 26), none, (.r (.fa 0 (.tmp 5))), []⟩, ⟨(some 27), none, (.r (.ld (.tmp 26))), []⟩, ⟨(some 28), none, (.c (.fn 33 [(.tmp 27)])), []⟩, ⟨(some 29), none, (.r (.not (.tmp 28))), []⟩])
  (.cond (.tmp 29)
  (.seq (.run [⟨(some 30), none, (.r (.mv (.tmp 4))), []⟩, ⟨(some 31), none, (.r (.mki 44 (.const (.int .i64 3)))), []⟩, ⟨(some 2), none, (.a (.tmp 30)), []⟩, ⟨(some 3), none, (.a (.tmp 31)), []⟩])
  .ret)
  .skip))
  rc20_6)))
  (.run [⟨(some 110), none, (.r (.bin .add (.tmp 21) (.const (.int .i64 1)))), []⟩, ⟨(some 21), none, (.r (.mv (.tmp 110))), []⟩]))
def rc20_8 : RC := (.seq (.run [⟨(some 22), none, (.r (.bin .lss (.tmp 21) (.tmp 20))), []⟩])
  (.seq (.cond (.tmp 22)
  .skip
  (.exit 0))
  rc20_7))
def rc20_9 : RC := (.seq (.run [⟨(some 2), none, (.a (.const (.int .i64 0))), []⟩, ⟨(some 3), none, (.a (.const .nilIface)), []⟩])
  .ret)
def rc20_10 : RC := (.seq (.seq (.run [⟨(some 19), none, (.r (.mv (.tmp 0))), []⟩, ⟨(some 20), none, (.r (.lenl (.tmp 19))), []⟩, ⟨(some 21), none, (.r (.mv (.const (.int .i64 0)))), []⟩])
  (.block 0 (.loop rc20_8)))
  rc20_9)
def rc20 : RC := (.seq (.run [⟨(some 2), none, (.a (.const (.int .i64 0))), []⟩, ⟨(some 3), none, (.a (.const .nilIface)), []⟩])
  (.seq (.seq (.run [⟨(some 10), none, (.r (.mv (.tmp 0))), []⟩, ⟨(some 11), none, (.r (.lenl (.tmp 10))), []⟩, ⟨(some 12), none, (.r (.bin .eql (.tmp 11) (.const (.int .i64 0)))), []⟩, ⟨(some 13), none, (.r (.mv (.tmp 12))), []⟩, ⟨(some 14), (some (13, false)), (.r (.mv (.tmp 0))), []⟩, ⟨(some 15), (some (13, false)), (.r (.lenl (.tmp 14))), []⟩, ⟨(some 16), (some (13, false)), (.r (.bin .gtr (.tmp 15) (.const (.int .i64 8)))), []⟩, ⟨(some 17), none, (.r (.pick (.tmp 13) (.const (.bool true)) (.tmp 16))), []⟩])
  (.cond (.tmp 17)
  (.seq (.run [⟨(some 18), none, (.r (.mki 44 (.const (.int .i64 7)))), []⟩, ⟨(some 2), none, (.a (.const (.int .i64 (-1)))), []⟩, ⟨(some 3), none, (.a (.tmp 18)), []⟩])
  .ret)
  .skip))
  rc20_10))
def ce20 : List (Nat × List Nat × List Nat) := [(14, [0, 1, 2, 3, 4, 5, 6, 7, 8, 9, 10, 11, 12, 13, 14, 15, 16, 17, 18, 19, 20, 21, 22, 23, 24, 25, 26, 27, 28, 29, 30], [0, 1, 3, 7, 15, 31, 63, 127, 255, 511, 1023, 2047, 4095, 8191, 16383, 32767, 16383, 81919, 212991, 524287, 1048575, 2097151, 4194303, 8388607, 16777215, 33554431, 67108863, 134217727, 268435455, 536870911, 1073741823]), (19, [0, 1, 2, 3, 4, 5, 6, 7, 8, 9, 10, 11, 12, 13, 14, 15, 16, 17], [0, 1, 0, 4, 0, 16, 60, 127, 255, 511, 1023, 511, 2559, 511, 8703, 31231, 65535, 131071])]
def ro20 : List RO := [(.mv (.tmp 2)), (.mv (.tmp 3))]
theorem ok20 : okFn Tryd.prog 20 111 ce20 = some (rc20, ro20) := by kernel_rfl
/-! lifeline/lifelinelaw16.wrong -/
def rc21_0 : RC := (.seq (.block 3 (.seq (.run [⟨(some 31), none, (.r (.ia 5 (.tmp 27) (.tmp 29))), []⟩, ⟨(some 32), none, (.r (.ldn 5 (.tmp 31))), []⟩, ⟨(some 9), none, (.e (.al [(.string ⟨#[]⟩), (.int .i64 0), (.int .i64 0), (.int .u32 0), (.int .i64 0)] 36)), []⟩, ⟨none, none, (.e (.st 5 (.tmp 9) (.tmp 32))), []⟩])
  (.seq (.run [⟨(some 33), none, (.r (.mv (.tmp 6))), []⟩, ⟨(some 34), none, (.r (.mv (.tmp 33))), []⟩, ⟨(some 35), (some (34, false)), (.r (.fa 0 (.tmp 9))), []⟩, ⟨(some 36), (some (34, false)), (.r (.ld (.tmp 35))), []⟩, ⟨(some 37), (some (34, false)), (.r (.fa 0 (.tmp 5))), []⟩, ⟨(some 38), (some (34, false)), (.r (.ld (.tmp 37))), []⟩, ⟨(some 39), (some (34, false)), (.r (.bin .eql (.tmp 36) (.tmp 38))), []⟩, ⟨(some 40), none, (.r (.pick (.tmp 34) (.const (.bool true)) (.tmp 39))), []⟩, ⟨(some 6), none, (.a (.tmp 40)), []⟩])
  (.run [⟨(some 41), none, (.r (.mv (.tmp 7))), []⟩, ⟨(some 42), none, (.r (.mv (.tmp 41))), []⟩, ⟨(some 43), (some (42, false)), (.r (.fa 1 (.tmp 9))), []⟩, ⟨(some 44), (some (42, false)), (.r (.ld (.tmp 43))), []⟩, ⟨(some 45), (some (42, false)), (.r (.fa 1 (.tmp 5))), []⟩, ⟨(some 46), (some (42, false)), (.r (.ld (.tmp 45))), []⟩, ⟨(some 47), (some (42, false)), (.r (.mx (.tmp 44) (.tmp 46))), []⟩, ⟨(some 48), (some (42, false)), (.r (.fa 1 (.tmp 9))), []⟩, ⟨(some 49), (some (42, false)), (.r (.ld (.tmp 48))), []⟩, ⟨(some 50), (some (42, false)), (.r (.ldn 5 (.tmp 9))), []⟩, ⟨(some 53), (some (42, false)), (.r (.fa 1 (.tmp 5))), []⟩, ⟨(some 54), (some (42, false)), (.r (.ld (.tmp 53))), []⟩, ⟨(some 55), (some (42, false)), (.r (.ldn 5 (.tmp 5))), []⟩, ⟨(some 51), (some (42, false)), (.c (.fn 17 [(.tmp 50)])), [(44, (some (42, false)), .ld (.tmp 43)), (46, (some (42, false)), .ld (.tmp 45)), (49, (some (42, false)), .ld (.tmp 48)), (54, (some (42, false)), .ld (.tmp 53)), (55, (some (42, false)), .ldn 5 (.tmp 5))]⟩, ⟨(some 52), (some (42, false)), (.r (.bin .add (.tmp 49) (.tmp 51))), []⟩, ⟨(some 56), (some (42, false)), (.c (.fn 17 [(.tmp 55)])), [(44, (some (42, false)), .ld (.tmp 43)), (46, (some (42, false)), .ld (.tmp 45)), (49, (some (42, false)), .ld (.tmp 48)), (54, (some (42, false)), .ld (.tmp 53))]⟩, ⟨(some 57), (some (42, false)), (.r (.bin .add (.tmp 54) (.tmp 56))), []⟩, ⟨(some 58), (some (42, false)), (.r (.mn (.tmp 52) (.tmp 57))), []⟩, ⟨(some 59), (some (42, false)), (.r (.bin .lss (.tmp 47) (.tmp 58))), []⟩, ⟨(some 60), none, (.r (.pick (.tmp 42) (.const (.bool true)) (.tmp 59))), []⟩, ⟨(some 7), none, (.a (.tmp 60)), []⟩]))))
  (.run [⟨(some 61), none, (.r (.bin .add (.tmp 29) (.const (.int .i64 1)))), []⟩, ⟨(some 29), none, (.r (.mv (.tmp 61))), []⟩]))
def rc21_1 : RC := (.seq (.run [⟨(some 30), none, (.r (.bin .lss (.tmp 29) (.tmp 28))), []⟩])
  (.seq (.cond (.tmp 30)
  .skip
  (.exit 2))
  rc21_0))
def rc21_2 : RC := (.block 4 (.seq (.run [⟨(some 63), none, (.r (.fa 0 (.tmp 5))), []⟩, ⟨(some 64), none, (.r (.ld (.tmp 63))), []⟩, ⟨(some 65), none, (.c (.fn 33 [(.tmp 64)])), []⟩, ⟨(some 66), none, (.r (.not (.tmp 65))), []⟩, ⟨(some 62), none, (.a (.tmp 66)), []⟩])
  (.cond (.tmp 62)
  (.seq (.run [⟨(some 67), none, (.r (.mv (.tmp 4))), []⟩, ⟨(some 2), none, (.a (.tmp 67)), []⟩, ⟨(some 3), none, (.a (.const (.int .i64 3))), []⟩])
  .ret)
  (.seq (.run [⟨(some 69), none, (.r (.mv (.tmp 6))), []⟩, ⟨(some 68), none, (.a (.tmp 69)), []⟩])
  (.cond (.tmp 68)
  (.seq (.run [⟨(some 70), none, (.r (.mv (.tmp 4))), []⟩, ⟨(some 2), none, (.a (.tmp 70)), []⟩, ⟨(some 3), none, (.a (.const (.int .i64 4))), []⟩])
  .ret)
  (.seq (.run [⟨(some 72), none, (.r (.fa 1 (.tmp 5))), []⟩, ⟨(some 73), none, (.r (.ld (.tmp 72))), []⟩, ⟨(some 74), none, (.r (.bin .lss (.tmp 73) (.const (.int .i64 0)))), []⟩, ⟨(some 75), none, (.r (.mv (.tmp 74))), []⟩, ⟨(some 76), (some (75, false)), (.r (.fa 1 (.tmp 5))), []⟩, ⟨(some 77), (some (75, false)), (.r (.ld (.tmp 76))), []⟩, ⟨(some 78), (some (75, false)), (.r (.bin .gtr (.tmp 77) (.const (.int .i64 16384)))), []⟩, ⟨(some 79), none, (.r (.pick (.tmp 75) (.const (.bool true)) (.tmp 78))), []⟩, ⟨(some 80), none, (.r (.mv (.tmp 79))), []⟩, ⟨(some 81), (some (80, false)), (.r (.fa 2 (.tmp 5))), []⟩, ⟨(some 82), (some (80, false)), (.r (.ld (.tmp 81))), []⟩, ⟨(some 83), (some (80, false)), (.r (.bin .lss (.tmp 82) (.const (.int .i64 1)))), []⟩, ⟨(some 84), none, (.r (.pick (.tmp 80) (.const (.bool true)) (.tmp 83))), []⟩, ⟨(some 85), none, (.r (.mv (.tmp 84))), []⟩, ⟨(some 86), (some (85, false)), (.r (.fa 2 (.tmp 5))), []⟩, ⟨(some 87), (some (85, false)), (.r (.ld (.tmp 86))), []⟩, ⟨(some 88), (some (85, false)), (.r (.bin .gtr (.tmp 87) (.const (.int .i64 8192)))), []⟩, ⟨(some 89), none, (.r (.pick (.tmp 85) (.const (.bool true)) (.tmp 88))), []⟩, ⟨(some 90), none, (.r (.mv (.tmp 89))), []⟩, ⟨(some 91), (some (90, false)), (.r (.fa 1 (.tmp 5))), []⟩, ⟨(some 92), (some (90, false)), (.r (.ld (.tmp 91))), []⟩, ⟨(some 93), (some (90, false)), (.r (.ldn 5 (.tmp 5))), []⟩, ⟨(some 94), (some (90, false)), (.c (.fn 17 [(.tmp 93)])), [(92, (some (90, false)), .ld (.tmp 91))]⟩, ⟨(some 95), (some (90, false)), (.r (.bin .add (.tmp 92) (.tmp 94))), []⟩, ⟨(some 96), (some (90, false)), (.r (.bin .gtr (.tmp 95) (.const (.int .i64 16384)))), []⟩, ⟨(some 97), none, (.r (.pick (.tmp 90) (.const (.bool true)) (.tmp 96))), []⟩, ⟨(some 98), none, (.r (.mv (.tmp 97))), []⟩, ⟨(some 99), (some (98, false)), (.r (.fa 4 (.tmp 5))), []⟩, ⟨(some 100), (some (98, false)), (.r (.ld (.tmp 99))), []⟩, ⟨(some 101), (some (98, false)), (.r (.bin .lss (.tmp 100) (.const (.int .i64 0)))), []⟩, ⟨(some 102), none, (.r (.pick (.tmp 98) (.const (.bool true)) (.tmp 101))), []⟩, ⟨(some 103), none, (.r (.mv (.tmp 102))), []⟩, ⟨(some 104), (some (103, false)), (.r (.fa 4 (.tmp 5))), []⟩, ⟨(some 105), (some (103, false)), (.r (.ld (.tmp 104))), []⟩, ⟨(some 106), (some (103, false)), (.r (.bin .gtr (.tmp 105) (.const (.int .i64 3)))), []⟩, ⟨(some 107), none, (.r (.pick (.tmp 103) (.const (.bool true)) (.tmp 106))), []⟩, ⟨(some 71), none, (.a (.tmp 107)), []⟩])
  (.cond (.tmp 71)
  (.seq (.run [⟨(some 108), none, (.r (.mv (.tmp 4))), []⟩, ⟨(some 2), none, (.a (.tmp 108)), []⟩, ⟨(some 3), none, (.a (.const (.int .i64 5))), []⟩])
  .ret)
  (.seq (.run [⟨(some 110), none, (.r (.mv (.tmp 7))), []⟩, ⟨(some 109), none, (.a (.tmp 110)), []⟩])
  (.cond (.tmp 109)
  (.seq (.run [⟨(some 111), none, (.r (.mv (.tmp 4))), []⟩, ⟨(some 2), none, (.a (.tmp 111)), []⟩, ⟨(some 3), none, (.a (.const (.int .i64 6))), []⟩])
  .ret)
  .skip)))))))))
def rc21_3 : RC := (.seq (.block 1 (.seq (.run [⟨(some 22), none, (.r (.mv (.tmp 20))), []⟩, ⟨(some 23), none, (.r (.ia 5 (.tmp 18) (.tmp 20))), []⟩, ⟨(some 24), none, (.r (.ldn 5 (.tmp 23))), []⟩, ⟨(some 5), none, (.e (.al [(.string ⟨#[]⟩), (.int .i64 0), (.int .i64 0), (.int .u32 0), (.int .i64 0)] 36)), []⟩, ⟨(some 4), none, (.a (.tmp 22)), []⟩, ⟨none, none, (.e (.st 5 (.tmp 5) (.tmp 24))), []⟩])
  (.seq (.run [⟨(some 6), none, (.a (.const (.bool false))), []⟩, ⟨(some 7), none, (.a (.const (.bool false))), []⟩])
  (.seq (.seq (.run [⟨(some 25), none, (.r (.mv (.tmp 0))), []⟩, ⟨(some 26), none, (.r (.mv (.tmp 4))), []⟩, ⟨(some 27), none, (.r (.sl 5 (.tmp 25) none (some (.tmp 26)))), []⟩, ⟨(some 28), none, (.r (.lenl (.tmp 27))), []⟩, ⟨(some 29), none, (.r (.mv (.const (.int .i64 0)))), []⟩])
  (.block 2 (.loop rc21_1)))
  rc21_2))))
  (.run [⟨(some 112), none, (.r (.bin .add (.tmp 20) (.const (.int .i64 1)))), []⟩, ⟨(some 20), none, (.r (.mv (.tmp 112))), []⟩]))
def rc21_4 : RC := (.seq (.run [⟨(some 21), none, (.r (.bin .lss (.tmp 20) (.tmp 19))), []⟩])
  (.seq (.cond (.tmp 21)
  .skip
  (.exit 0))
  rc21_3))
def rc21_5 : RC := (.seq (.run [⟨(some 2), none, (.a (.const (.int .i64 0))), []⟩, ⟨(some 3), none, (.a (.const (.int .i64 0))), []⟩])
  .ret)
def rc21_6 : RC := (.seq (.seq (.run [⟨(some 18), none, (.r (.mv (.tmp 0))), []⟩, ⟨(some 19), none, (.r (.lenl (.tmp 18))), []⟩, ⟨(some 20), none, (.r (.mv (.const (.int .i64 0)))), []⟩])
  (.block 0 (.loop rc21_4)))
  rc21_5)
def rc21 : RC := (.seq (.run [⟨(some 2), none, (.a (.const (.int .i64 0))), []⟩, ⟨(some 3), none, (.a (.const (.int .i64 0))), []⟩])
  (.seq (.seq (.run [⟨(some 10), none, (.r (.mv (.tmp 0))), []⟩, ⟨(some 11), none, (.r (.lenl (.tmp 10))), []⟩, ⟨(some 12), none, (.r (.bin .lss (.tmp 11) (.const (.int .i64 1)))), []⟩, ⟨(some 13), none, (.r (.mv (.tmp 12))), []⟩, ⟨(some 14), (some (13, false)), (.r (.mv (.tmp 0))), []⟩, ⟨(some 15), (some (13, false)), (.r (.lenl (.tmp 14))), []⟩, ⟨(some 16), (some (13, false)), (.r (.bin .gtr (.tmp 15) (.const (.int .i64 8)))), []⟩, ⟨(some 17), none, (.r (.pick (.tmp 13) (.const (.bool true)) (.tmp 16))), []⟩])
  (.cond (.tmp 17)
  (.seq (.run [⟨(some 2), none, (.a (.const (.int .i64 (-1)))), []⟩, ⟨(some 3), none, (.a (.const (.int .i64 7))), []⟩])
  .ret)
  .skip))
  rc21_6))
def ce21 : List (Nat × List Nat × List Nat) := [(11, [0, 1, 2, 3, 4, 5, 6, 7, 8, 9, 12, 13, 14, 10, 11, 15, 16, 17, 18, 19, 20], [0, 1, 3, 7, 3, 19, 63, 3, 131, 3, 515, 1923, 3, 4099, 3, 17923, 62979, 130947, 262143, 524287, 1048575]), (17, [0, 1, 2, 3, 4, 5, 6, 7, 8, 9, 10, 11, 12, 13, 14, 15, 16, 17, 18, 19, 20, 21, 22, 23, 24, 25, 26, 27, 28, 29, 30, 31, 32, 33, 34, 35, 36], [0, 1, 3, 7, 15, 31, 63, 127, 255, 511, 1023, 2047, 4095, 8191, 16383, 32767, 65535, 131071, 262143, 524287, 1048575, 524287, 2621439, 8388607, 16777215, 33554431, 67108863, 134217727, 268435455, 536870911, 1073741823, 2147483647, 4294967295, 8589934591, 17179869183, 34359738367, 68719476735])]
def ro21 : List RO := [(.mv (.tmp 2)), (.mv (.tmp 3))]
theorem ok21 : okFn Tryd.prog 21 113 ce21 = some (rc21, ro21) := by kernel_rfl
/-! (lifeline/lifelinelaw16.Act).Entry -/
def rc22_0 : RC := (.run [⟨(some 8), none, (.c (.fn 34 [(.tmp 7)])), [(17, none, .ld (.tmp 16)), (22, none, .ld (.tmp 21)), (24, none, .ld (.tmp 23))]⟩, ⟨(some 13), none, (.r (.bin .add (.tmp 8) (.tmp 12))), []⟩, ⟨(some 27), none, (.r (.bld [(.string ⟨#[]⟩), (.int .i64 0), (.int .i64 0), (.int .u32 0), (.int .i64 0)] [(0, 1, (.tmp 13)), (1, 1, (.tmp 15)), (2, 1, (.tmp 20)), (3, 1, (.tmp 22)), (4, 1, (.tmp 26))])), []⟩, ⟨(some 5), none, (.e (.al [(.string ⟨#[]⟩), (.int .i64 0), (.int .i64 0), (.int .u32 0), (.int .i64 0)] 36)), [(7, none, .ld (.tmp 6)), (17, none, .ld (.tmp 16)), (22, none, .ld (.tmp 21)), (24, none, .ld (.tmp 23))]⟩, ⟨none, none, (.e (.st 5 (.tmp 5) (.tmp 27))), []⟩])
def rc22_1 : RC := (.run [⟨(some 5), none, (.e (.al [(.string ⟨#[]⟩), (.int .i64 0), (.int .i64 0), (.int .u32 0), (.int .i64 0)] 36)), [(7, none, .ld (.tmp 6)), (17, none, .ld (.tmp 16)), (22, none, .ld (.tmp 21)), (24, none, .ld (.tmp 23))]⟩, ⟨(some 8), none, (.c (.fn 34 [(.tmp 7)])), [(17, none, .ld (.tmp 16)), (22, none, .ld (.tmp 21)), (24, none, .ld (.tmp 23))]⟩, ⟨(some 13), none, (.r (.bin .add (.tmp 8) (.tmp 12))), []⟩, ⟨(some 27), none, (.r (.bld [(.string ⟨#[]⟩), (.int .i64 0), (.int .i64 0), (.int .u32 0), (.int .i64 0)] [(0, 1, (.tmp 13)), (1, 1, (.tmp 15)), (2, 1, (.tmp 20)), (3, 1, (.tmp 22)), (4, 1, (.tmp 26))])), []⟩, ⟨none, none, (.e (.st 5 (.tmp 5) (.tmp 27))), []⟩])
def rc22_2 : RC := (.seq (.run [⟨(some 36), none, (.r (.ldn 5 (.tmp 5))), []⟩, ⟨none, none, (.e (.st 5 (.tmp 4) (.tmp 36))), []⟩])
  .ret)
def rc22_3 : RC := (.seq (.seq (.run [⟨(some 28), none, (.r (.fa 1 (.tmp 2))), []⟩, ⟨(some 29), none, (.r (.ld (.tmp 28))), []⟩, ⟨(some 30), none, (.r (.bin .rem (.tmp 29) (.const (.int .u16 8)))), []⟩, ⟨(some 31), none, (.r (.bin .eql (.tmp 30) (.const (.int .u16 7)))), []⟩])
  (.cond (.tmp 31)
  (.run [⟨(some 32), none, (.r (.fa 1 (.tmp 2))), []⟩, ⟨(some 33), none, (.r (.ld (.tmp 32))), []⟩, ⟨(some 34), none, (.r (.cvi .i64 (.tmp 33))), []⟩, ⟨(some 35), none, (.r (.fa 1 (.tmp 5))), []⟩, ⟨none, none, (.e (.st 1 (.tmp 35) (.tmp 34))), []⟩])
  .skip))
  rc22_2)
def rc22 : RC := (.seq (.run [⟨(some 2), none, (.e (.bx 57 (.tmp 0))), []⟩, ⟨(some 4), none, (.e (.al [(.string ⟨#[]⟩), (.int .i64 0), (.int .i64 0), (.int .u32 0), (.int .i64 0)] 36)), []⟩])
  (.seq (.fork [⟨(some 6), none, (.r (.fa 0 (.tmp 2))), []⟩, ⟨(some 7), none, (.r (.ld (.tmp 6))), []⟩, ⟨(some 9), none, (.r (.mv (.tmp 1))), []⟩, ⟨(some 10), none, (.r (.bin .add (.const (.int .i64 97)) (.tmp 9))), []⟩, ⟨(some 11), none, (.r (.cvi .i32 (.tmp 10))), []⟩, ⟨(some 12), none, (.r (.i2s (.tmp 11))), []⟩, ⟨(some 14), none, (.r (.mv (.tmp 1))), []⟩, ⟨(some 15), none, (.r (.bin .mul (.tmp 14) (.const (.int .i64 2048)))), []⟩, ⟨(some 16), none, (.r (.fa 2 (.tmp 2))), []⟩, ⟨(some 17), none, (.r (.ld (.tmp 16))), []⟩, ⟨(some 18), none, (.r (.cvi .i64 (.tmp 17))), []⟩, ⟨(some 19), none, (.r (.bin .rem (.tmp 18) (.const (.int .i64 600)))), []⟩, ⟨(some 20), none, (.r (.bin .add (.const (.int .i64 1)) (.tmp 19))), []⟩, ⟨(some 21), none, (.r (.fa 3 (.tmp 2))), []⟩, ⟨(some 22), none, (.r (.ld (.tmp 21))), []⟩, ⟨(some 23), none, (.r (.fa 4 (.tmp 2))), []⟩, ⟨(some 24), none, (.r (.ld (.tmp 23))), []⟩, ⟨(some 25), none, (.r (.bin .rem (.tmp 24) (.const (.int .u8 4)))), []⟩, ⟨(some 26), none, (.r (.cvi .i64 (.tmp 25))), []⟩]
  rc22_0
  rc22_1)
  rc22_3))
def ce22 : List (Nat × List Nat × List Nat) := [(1, [0, 1, 3, 4, 5, 6, 8, 9, 10, 11, 12, 13, 14, 15, 16, 17, 18, 19, 20, 1000, 2, 7, 21, 22, 23, 1001, 22, 2, 7, 21, 23], [0, 1, 3, 0, 8, 24, 56, 127, 0, 256, 0, 1024, 3072, 7168, 15360, 0, 32768, 0, 131072, 393216, 917504, 2097151, 0, 8388607])]
def ro22 : List RO := [(.ldn 5 (.tmp 4))]
theorem ok22 : okFn Tryd.prog 22 37 ce22 = some (rc22, ro22) := by kernel_rfl
/-! lifeline/token.Quote -/
def rc23_0 : RC := (.seq (.block 1 (.seq (.run [⟨(some 12), none, (.r (.mv (.tmp 10))), []⟩, ⟨(some 5), none, (.a (.tmp 12)), []⟩])
  (.seq (.run [⟨(some 13), none, (.r (.mv (.tmp 0))), []⟩, ⟨(some 14), none, (.r (.mv (.tmp 5))), []⟩, ⟨(some 15), none, (.r (.ixs (.tmp 13) (.tmp 14))), []⟩, ⟨(some 6), none, (.a (.tmp 15)), []⟩])
  (.block 2 (.seq (.run [⟨(some 19), none, (.r (.mv (.tmp 6))), []⟩, ⟨(some 20), none, (.r (.bin .eql (.tmp 19) (.const (.int .u8 13)))), []⟩, ⟨(some 18), none, (.a (.tmp 20)), []⟩])
  (.cond (.tmp 18)
  (.run [⟨(some 21), none, (.c (.fn 24 [(.tmp 4), (.const (.string ⟨#[92, 114]⟩))])), []⟩])
  (.seq (.run [⟨(some 23), none, (.r (.mv (.tmp 6))), []⟩, ⟨(some 24), none, (.r (.bin .eql (.tmp 23) (.const (.int .u8 10)))), []⟩, ⟨(some 22), none, (.a (.tmp 24)), []⟩])
  (.cond (.tmp 22)
  (.run [⟨(some 25), none, (.c (.fn 24 [(.tmp 4), (.const (.string ⟨#[92, 110]⟩))])), []⟩])
  (.seq (.run [⟨(some 27), none, (.r (.mv (.tmp 6))), []⟩, ⟨(some 28), none, (.r (.bin .lss (.tmp 27) (.const (.int .u8 32)))), []⟩, ⟨(some 29), none, (.r (.mv (.tmp 28))), []⟩, ⟨(some 30), (some (29, false)), (.r (.mv (.tmp 6))), []⟩, ⟨(some 31), (some (29, false)), (.r (.bin .gtr (.tmp 30) (.const (.int .u8 126)))), []⟩, ⟨(some 32), none, (.r (.pick (.tmp 29) (.const (.bool true)) (.tmp 31))), []⟩, ⟨(some 26), none, (.a (.tmp 32)), []⟩])
  (.cond (.tmp 26)
  (.seq (.run [⟨(some 2), none, (.a (.const (.string ⟨#[]⟩))), []⟩, ⟨(some 3), none, (.a (.const (.bool false))), []⟩])
  .ret)
  (.seq (.run [⟨(some 34), none, (.r (.mv (.tmp 6))), []⟩, ⟨(some 35), none, (.r (.bin .eql (.tmp 34) (.const (.int .u8 34)))), []⟩, ⟨(some 36), none, (.r (.mv (.tmp 35))), []⟩, ⟨(some 37), (some (36, false)), (.r (.mv (.tmp 6))), []⟩, ⟨(some 38), (some (36, false)), (.r (.bin .eql (.tmp 37) (.const (.int .u8 92)))), []⟩, ⟨(some 39), none, (.r (.pick (.tmp 36) (.const (.bool true)) (.tmp 38))), []⟩, ⟨(some 33), none, (.a (.tmp 39)), []⟩])
  (.cond (.tmp 33)
  (.run [⟨(some 40), none, (.r (.mv (.tmp 0))), []⟩, ⟨(some 41), none, (.r (.mv (.tmp 5))), []⟩, ⟨(some 42), none, (.r (.mv (.tmp 5))), []⟩, ⟨(some 43), none, (.r (.bin .add (.tmp 42) (.const (.int .i64 1)))), []⟩, ⟨(some 44), none, (.r (.sls (.tmp 40) (some (.tmp 41)) (some (.tmp 43)))), []⟩, ⟨(some 45), none, (.r (.bin .add (.const (.string ⟨#[92]⟩)) (.tmp 44))), []⟩, ⟨(some 46), none, (.c (.fn 24 [(.tmp 4), (.tmp 45)])), []⟩])
  (.run [⟨(some 16), none, (.r (.mv (.tmp 6))), []⟩, ⟨(some 17), none, (.c (.fn 35 [(.tmp 4), (.tmp 16)])), []⟩])))))))))))))
  (.run [⟨(some 47), none, (.r (.bin .add (.tmp 10) (.const (.int .i64 1)))), []⟩, ⟨(some 10), none, (.r (.mv (.tmp 47))), []⟩]))
def rc23_1 : RC := (.seq (.run [⟨(some 11), none, (.r (.bin .lss (.tmp 10) (.tmp 9))), []⟩])
  (.seq (.cond (.tmp 11)
  .skip
  (.exit 0))
  rc23_0))
def rc23_2 : RC := (.seq (.run [⟨(some 48), none, (.c (.fn 28 [(.tmp 4)])), []⟩, ⟨(some 49), none, (.r (.bin .add (.tmp 48) (.const (.string ⟨#[34]⟩)))), []⟩, ⟨(some 2), none, (.a (.tmp 49)), []⟩, ⟨(some 3), none, (.a (.const (.bool true))), []⟩])
  .ret)
def rc23 : RC := (.seq (.run [⟨(some 2), none, (.a (.const (.string ⟨#[]⟩))), []⟩, ⟨(some 3), none, (.a (.const (.bool false))), []⟩])
  (.seq (.run [⟨(some 4), none, (.e (.al [(.pointer none), (.slice none 0 0)] 61)), []⟩])
  (.seq (.run [⟨(some 7), none, (.c (.fn 35 [(.tmp 4), (.const (.int .u8 34))])), []⟩])
  (.seq (.seq (.run [⟨(some 8), none, (.r (.mv (.tmp 0))), []⟩, ⟨(some 9), none, (.r (.lens (.tmp 8))), []⟩, ⟨(some 10), none, (.r (.mv (.const (.int .i64 0)))), []⟩])
  (.block 0 (.loop rc23_1)))
  rc23_2))))
def ce23 : List (Nat × List Nat × List Nat) := []
def ro23 : List RO := [(.mv (.tmp 2)), (.mv (.tmp 3))]
theorem ok23 : okFn Tryd.prog 23 50 ce23 = some (rc23, ro23) := by kernel_rfl
/-! (*strings.Builder).WriteString -/

def rc24 : RC := (.seq (.run [⟨(some 4), none, (.a (.const (.int .i64 0))), []⟩, ⟨(some 5), none, (.a (.const .nilIface)), []⟩])
  (.seq (.run [⟨(some 6), none, (.r (.mv (.tmp 0))), []⟩, ⟨(some 7), none, (.c (.fn 36 [(.tmp 6)])), []⟩])
  (.seq (.run [⟨(some 8), none, (.r (.mv (.tmp 0))), []⟩, ⟨(some 9), none, (.r (.mv (.tmp 0))), []⟩, ⟨(some 10), none, (.r (.nck (.tmp 9))), []⟩, ⟨(some 11), none, (.r (.fa 1 (.tmp 10))), []⟩, ⟨(some 12), none, (.r (.ld (.tmp 11))), []⟩, ⟨(some 13), none, (.r (.mv (.tmp 1))), []⟩, ⟨(some 14), none, (.e (.app 5 1 1 (.tmp 12) (.tmp 13))), []⟩, ⟨(some 15), none, (.r (.nck (.tmp 8))), []⟩, ⟨(some 16), none, (.r (.fa 1 (.tmp 15))), []⟩, ⟨none, none, (.e (.st 1 (.tmp 16) (.tmp 14))), []⟩])
  (.seq (.run [⟨(some 17), none, (.r (.mv (.tmp 1))), []⟩, ⟨(some 18), none, (.r (.lens (.tmp 17))), []⟩, ⟨(some 4), none, (.a (.tmp 18)), []⟩, ⟨(some 5), none, (.a (.const .nilIface)), []⟩])
  .ret))))
def ce24 : List (Nat × List Nat × List Nat) := []
def ro24 : List RO := [(.mv (.tmp 4)), (.mv (.tmp 5))]
theorem ok24 : okFn Tryd.prog 24 19 ce24 = some (rc24, ro24) := by kernel_rfl
/-! strconv.FormatInt -/

def rc25 : RC := (.seq (.run [⟨(some 4), none, (.a (.const (.string ⟨#[]⟩))), []⟩])
  (.seq (.run [⟨(some 5), none, (.r (.mv (.tmp 0))), []⟩, ⟨(some 6), none, (.r (.mv (.tmp 1))), []⟩, ⟨(some 7), none, (.c (.fn 37 [(.tmp 5), (.tmp 6)])), []⟩, ⟨(some 4), none, (.a (.tmp 7)), []⟩])
  .ret))
def ce25 : List (Nat × List Nat × List Nat) := []
def ro25 : List RO := [(.mv (.tmp 4))]
theorem ok25 : okFn Tryd.prog 25 8 ce25 = some (rc25, ro25) := by kernel_rfl
/-! strconv.Itoa -/

def rc26 : RC := (.seq (.run [⟨(some 2), none, (.a (.const (.string ⟨#[]⟩))), []⟩])
  (.seq (.run [⟨(some 3), none, (.r (.mv (.tmp 0))), []⟩, ⟨(some 4), none, (.c (.fn 38 [(.tmp 3)])), []⟩, ⟨(some 2), none, (.a (.tmp 4)), []⟩])
  .ret))
def ce26 : List (Nat × List Nat × List Nat) := []
def ro26 : List RO := [(.mv (.tmp 2))]
theorem ok26 : okFn Tryd.prog 26 5 ce26 = some (rc26, ro26) := by kernel_rfl
/-! strconv.FormatUint -/

def rc27 : RC := (.seq (.run [⟨(some 4), none, (.a (.const (.string ⟨#[]⟩))), []⟩])
  (.seq (.run [⟨(some 5), none, (.r (.mv (.tmp 0))), []⟩, ⟨(some 6), none, (.r (.mv (.tmp 1))), []⟩, ⟨(some 7), none, (.c (.fn 39 [(.tmp 5), (.tmp 6)])), []⟩, ⟨(some 4), none, (.a (.tmp 7)), []⟩])
  .ret))
def ce27 : List (Nat × List Nat × List Nat) := []
def ro27 : List RO := [(.mv (.tmp 4))]
theorem ok27 : okFn Tryd.prog 27 8 ce27 = some (rc27, ro27) := by kernel_rfl
/-! (*strings.Builder).String -/

def rc28 : RC := (.seq (.run [⟨(some 2), none, (.a (.const (.string ⟨#[]⟩))), []⟩])
  (.seq (.run [⟨(some 3), none, (.r (.mv (.tmp 0))), []⟩, ⟨(some 4), none, (.r (.nck (.tmp 3))), []⟩, ⟨(some 5), none, (.r (.fa 1 (.tmp 4))), []⟩, ⟨(some 6), none, (.r (.ld (.tmp 5))), []⟩, ⟨(some 7), none, (.r (.usd (.tmp 6))), []⟩, ⟨(some 8), none, (.r (.mv (.tmp 0))), []⟩, ⟨(some 9), none, (.r (.nck (.tmp 8))), []⟩, ⟨(some 10), none, (.r (.fa 1 (.tmp 9))), []⟩, ⟨(some 11), none, (.r (.ld (.tmp 10))), []⟩, ⟨(some 12), none, (.r (.lenl (.tmp 11))), []⟩, ⟨(some 13), none, (.e (.ust 5 (.tmp 7) (.tmp 12))), []⟩, ⟨(some 2), none, (.a (.tmp 13)), []⟩])
  .ret))
def ce28 : List (Nat × List Nat × List Nat) := [(1, [0, 1, 2, 3, 4, 5, 6, 7, 8, 9, 10, 11], [0, 1, 3, 7, 15, 0, 32, 96, 224, 480, 1023, 2047])]
def ro28 : List RO := [(.mv (.tmp 2))]
theorem ok28 : okFn Tryd.prog 28 14 ce28 = some (rc28, ro28) := by kernel_rfl
/-! lifeline/token.Cut -/
def rc29_0 : RC := (.block 1 (.run [⟨(some 53), none, (.r (.mv (.tmp 5))), []⟩, ⟨(some 54), none, (.r (.bin .add (.tmp 53) (.const (.int .i64 1)))), []⟩, ⟨(some 5), none, (.a (.tmp 54)), []⟩]))
def rc29_1 : RC := (.seq (.seq (.run [⟨(some 43), none, (.r (.mv (.tmp 5))), []⟩, ⟨(some 44), none, (.r (.mv (.tmp 0))), []⟩, ⟨(some 45), none, (.r (.lens (.tmp 44))), []⟩, ⟨(some 46), none, (.r (.bin .lss (.tmp 43) (.tmp 45))), []⟩, ⟨(some 47), none, (.r (.mv (.tmp 46))), []⟩, ⟨(some 48), (some (47, true)), (.r (.mv (.tmp 0))), []⟩, ⟨(some 49), (some (47, true)), (.r (.mv (.tmp 5))), []⟩, ⟨(some 50), (some (47, true)), (.r (.ixs (.tmp 48) (.tmp 49))), []⟩, ⟨(some 51), (some (47, true)), (.r (.bin .neq (.tmp 50) (.const (.int .u8 10)))), []⟩, ⟨(some 52), none, (.r (.pick (.tmp 47) (.tmp 51) (.const (.bool false)))), []⟩])
  (.cond (.tmp 52)
  .skip
  (.exit 0)))
  rc29_0)
def rc29_2 : RC := (.seq (.run [⟨(some 66), none, (.r (.mv (.tmp 5))), []⟩, ⟨(some 67), none, (.r (.fa 3 (.tmp 6))), []⟩, ⟨none, none, (.e (.st 1 (.tmp 67) (.tmp 66))), []⟩])
  (.seq (.run [⟨(some 68), none, (.r (.mv (.tmp 4))), []⟩, ⟨(some 69), none, (.r (.ldn 4 (.tmp 6))), []⟩, ⟨(some 70), none, (.e (.bsl 78 4 1 [(.int .i64 0), (.string ⟨#[]⟩), (.int .i64 0), (.int .i64 0)] [(0, 4, (.tmp 69))])), []⟩, ⟨(some 71), none, (.e (.app 78 4 40 (.tmp 68) (.tmp 70))), []⟩, ⟨(some 4), none, (.a (.tmp 71)), []⟩])
  (.seq (.run [⟨(some 72), none, (.r (.mv (.tmp 5))), []⟩, ⟨(some 73), none, (.r (.mv (.tmp 7))), []⟩, ⟨(some 74), none, (.r (.bin .add (.tmp 72) (.tmp 73))), []⟩, ⟨(some 5), none, (.a (.tmp 74)), []⟩])
  (.goto 0))))
def rc29_3 : RC := (.seq (.run [⟨(some 56), none, (.r (.mv (.tmp 0))), []⟩, ⟨(some 57), none, (.r (.mv (.tmp 5))), []⟩, ⟨(some 58), none, (.r (.sls (.tmp 56) (some (.tmp 57)) none)), []⟩, ⟨(some 59), none, (.c (.fn 41 [(.tmp 58)])), []⟩, ⟨(some 55), none, (.r (.mv (.tmp 59))), []⟩, ⟨(some 60), none, (.r (.ext 0 (.tmp 55))), []⟩, ⟨(some 61), none, (.r (.ext 1 (.tmp 55))), []⟩, ⟨(some 6), none, (.e (.al [(.int .i64 0), (.string ⟨#[]⟩), (.int .i64 0), (.int .i64 0)] 78)), []⟩, ⟨none, none, (.e (.st 4 (.tmp 6) (.tmp 60))), []⟩, ⟨(some 7), none, (.a (.tmp 61)), []⟩])
  (.seq (.seq (.run [⟨(some 62), none, (.r (.mv (.tmp 7))), []⟩, ⟨(some 63), none, (.r (.bin .eql (.tmp 62) (.const (.int .i64 0)))), []⟩])
  (.cond (.tmp 63)
  (.seq (.run [⟨(some 64), none, (.r (.mv (.tmp 5))), []⟩, ⟨(some 65), none, (.c (.fn 40 [(.const (.int .i64 1)), (.tmp 64)])), []⟩, ⟨(some 2), none, (.a (.const (.slice none 0 0))), []⟩, ⟨(some 3), none, (.a (.tmp 65)), []⟩])
  .ret)
  .skip))
  rc29_2))
def rc29_4 : RC := (.seq (.seq (.run [⟨(some 39), none, (.r (.mv (.tmp 0))), []⟩, ⟨(some 40), none, (.r (.mv (.tmp 5))), []⟩, ⟨(some 41), none, (.r (.ixs (.tmp 39) (.tmp 40))), []⟩, ⟨(some 42), none, (.r (.bin .eql (.tmp 41) (.const (.int .u8 35)))), []⟩])
  (.cond (.tmp 42)
  (.seq (.block 0 (.loop rc29_1))
  (.goto 0))
  .skip))
  rc29_3)
def rc29_5 : RC := (.seq (.seq (.run [⟨(some 21), none, (.r (.mv (.tmp 0))), []⟩, ⟨(some 22), none, (.r (.mv (.tmp 5))), []⟩, ⟨(some 23), none, (.r (.ixs (.tmp 21) (.tmp 22))), []⟩, ⟨(some 24), none, (.r (.bin .eql (.tmp 23) (.const (.int .u8 32)))), []⟩, ⟨(some 25), none, (.r (.mv (.tmp 24))), []⟩, ⟨(some 26), (some (25, false)), (.r (.mv (.tmp 0))), []⟩, ⟨(some 27), (some (25, false)), (.r (.mv (.tmp 5))), []⟩, ⟨(some 28), (some (25, false)), (.r (.ixs (.tmp 26) (.tmp 27))), []⟩, ⟨(some 29), (some (25, false)), (.r (.bin .eql (.tmp 28) (.const (.int .u8 9)))), []⟩, ⟨(some 30), none, (.r (.pick (.tmp 25) (.const (.bool true)) (.tmp 29))), []⟩, ⟨(some 31), none, (.r (.mv (.tmp 30))), []⟩, ⟨(some 32), (some (31, false)), (.r (.mv (.tmp 0))), []⟩, ⟨(some 33), (some (31, false)), (.r (.mv (.tmp 5))), []⟩, ⟨(some 34), (some (31, false)), (.r (.ixs (.tmp 32) (.tmp 33))), []⟩, ⟨(some 35), (some (31, false)), (.r (.bin .eql (.tmp 34) (.const (.int .u8 10)))), []⟩, ⟨(some 36), none, (.r (.pick (.tmp 31) (.const (.bool true)) (.tmp 35))), []⟩])
  (.cond (.tmp 36)
  (.seq (.run [⟨(some 37), none, (.r (.mv (.tmp 5))), []⟩, ⟨(some 38), none, (.r (.bin .add (.tmp 37) (.const (.int .i64 1)))), []⟩, ⟨(some 5), none, (.a (.tmp 38)), []⟩])
  (.goto 0))
  .skip))
  rc29_4)
def rc29_6 : RC := (.seq (.seq (.run [⟨(some 12), none, (.r (.mv (.tmp 5))), []⟩, ⟨(some 13), none, (.r (.mv (.tmp 0))), []⟩, ⟨(some 14), none, (.r (.lens (.tmp 13))), []⟩, ⟨(some 15), none, (.r (.bin .eql (.tmp 12) (.tmp 14))), []⟩])
  (.cond (.tmp 15)
  (.seq (.run [⟨(some 16), none, (.r (.mv (.tmp 4))), []⟩, ⟨(some 17), none, (.r (.mv (.tmp 5))), []⟩, ⟨(some 18), none, (.r (.bld [(.int .i64 0), (.string ⟨#[]⟩), (.int .i64 0), (.int .i64 0)] [(0, 1, (.const (.int .i64 0))), (3, 1, (.tmp 17))])), []⟩, ⟨(some 19), none, (.e (.bsl 78 4 1 [(.int .i64 0), (.string ⟨#[]⟩), (.int .i64 0), (.int .i64 0)] [(0, 4, (.tmp 18))])), []⟩, ⟨(some 20), none, (.e (.app 78 4 40 (.tmp 16) (.tmp 19))), []⟩, ⟨(some 2), none, (.a (.tmp 20)), []⟩, ⟨(some 3), none, (.a (.const .nilIface)), []⟩])
  .ret)
  .skip))
  rc29_5)
def rc29_7 : RC := (.seq (.run [⟨(some 4), none, (.a (.const (.slice none 0 0))), []⟩])
  (.seq (.run [⟨(some 5), none, (.a (.const (.int .i64 0))), []⟩])
  (.seq (.label 0)
  rc29_6)))
def rc29_8 : RC := (.seq .skip
  rc29_6)
def rc29 : RC := (.seq (.run [⟨(some 2), none, (.a (.const (.slice none 0 0))), []⟩, ⟨(some 3), none, (.a (.const .nilIface)), []⟩])
  (.jumps (.seq (.seq (.run [⟨(some 8), none, (.r (.mv (.tmp 0))), []⟩, ⟨(some 9), none, (.r (.lens (.tmp 8))), []⟩, ⟨(some 10), none, (.r (.bin .gtr (.tmp 9) (.const (.int .i64 4096)))), []⟩])
  (.cond (.tmp 10)
  (.seq (.run [⟨(some 11), none, (.c (.fn 40 [(.const (.int .i64 7)), (.const (.int .i64 0))])), []⟩, ⟨(some 2), none, (.a (.const (.slice none 0 0))), []⟩, ⟨(some 3), none, (.a (.tmp 11)), []⟩])
  .ret)
  .skip))
  rc29_7) 0 rc29_8 0 rc29_8))
def ce29 : List (Nat × List Nat × List Nat) := []
def ro29 : List RO := [(.mv (.tmp 2)), (.mv (.tmp 3))]
theorem ok29 : okFn Tryd.prog 29 75 ce29 = some (rc29, ro29) := by kernel_rfl
/-! (*lifeline/manifest.parser).entry -/
def rc30_0 : RC := (.seq (.block 1 (.seq (.run [⟨(some 40), none, (.r (.mv (.tmp 38))), []⟩, ⟨(some 41), none, (.r (.ia 1 (.tmp 36) (.tmp 38))), []⟩, ⟨(some 42), none, (.r (.ld (.tmp 41))), []⟩, ⟨(some 5), none, (.a (.tmp 40)), []⟩, ⟨(some 6), none, (.a (.tmp 42)), []⟩])
  (.seq (.run [⟨(some 43), none, (.r (.mv (.tmp 6))), []⟩, ⟨(some 44), none, (.r (.fa 1 (.tmp 4))), []⟩, ⟨(some 45), none, (.r (.ld (.tmp 44))), []⟩, ⟨(some 46), none, (.r (.bin .eql (.tmp 43) (.tmp 45))), []⟩])
  (.cond (.tmp 46)
  (.seq (.run [⟨(some 47), none, (.r (.mv (.tmp 5))), []⟩, ⟨(some 48), none, (.r (.fa 4 (.tmp 3))), []⟩, ⟨none, none, (.e (.st 1 (.tmp 48) (.tmp 47))), []⟩])
  (.seq (.run [⟨(some 49), none, (.r (.mv (.tmp 0))), []⟩, ⟨(some 50), none, (.c (.fn 42 [(.tmp 49), (.const (.int .i64 4)), (.const (.string ⟨#[59]⟩))])), []⟩])
  (.seq (.run [⟨(some 51), none, (.r (.ldn 5 (.tmp 3))), []⟩, ⟨none, none, (.e (.st 5 (.tmp 2) (.tmp 51))), []⟩])
  .ret)))
  .skip))))
  (.run [⟨(some 52), none, (.r (.bin .add (.tmp 38) (.const (.int .i64 1)))), []⟩, ⟨(some 38), none, (.r (.mv (.tmp 52))), []⟩]))
def rc30_1 : RC := (.seq (.run [⟨(some 39), none, (.r (.bin .lss (.tmp 38) (.tmp 37))), []⟩])
  (.seq (.cond (.tmp 39)
  .skip
  (.exit 0))
  rc30_0))
def rc30_2 : RC := (.seq (.run [⟨(some 64), none, (.r (.ldn 5 (.tmp 3))), []⟩, ⟨none, none, (.e (.st 5 (.tmp 2) (.tmp 64))), []⟩])
  .ret)
def rc30_3 : RC := (.seq (.seq (.run [⟨(some 53), none, (.r (.mv (.tmp 0))), []⟩, ⟨(some 54), none, (.r (.nck (.tmp 53))), []⟩, ⟨(some 55), none, (.r (.fa 2 (.tmp 54))), []⟩, ⟨(some 56), none, (.r (.ld (.tmp 55))), []⟩, ⟨(some 57), none, (.r (.eq false (.iface []) (.tmp 56) (.const .nilIface))), []⟩])
  (.cond (.tmp 57)
  (.run [⟨(some 58), none, (.r (.mv (.tmp 0))), []⟩, ⟨(some 59), none, (.r (.fa 3 (.tmp 4))), []⟩, ⟨(some 60), none, (.r (.ld (.tmp 59))), []⟩, ⟨(some 61), none, (.c (.fn 40 [(.const (.int .i64 3)), (.tmp 60)])), []⟩, ⟨(some 62), none, (.r (.nck (.tmp 58))), []⟩, ⟨(some 63), none, (.r (.fa 2 (.tmp 62))), []⟩, ⟨none, none, (.e (.st 1 (.tmp 63) (.tmp 61))), []⟩])
  .skip))
  rc30_2)
def rc30 : RC := (.seq (.run [⟨(some 2), none, (.e (.al [(.string ⟨#[]⟩), (.int .i64 0), (.int .i64 0), (.int .u32 0), (.int .i64 0)] 36)), []⟩])
  (.seq (.run [⟨(some 7), none, (.r (.mv (.tmp 0))), []⟩, ⟨(some 8), none, (.c (.fn 42 [(.tmp 7), (.const (.int .i64 1)), (.const (.string ⟨#[105, 109, 97, 103, 101]⟩))])), []⟩])
  (.seq (.run [⟨(some 9), none, (.r (.mv (.tmp 0))), []⟩, ⟨(some 10), none, (.c (.fn 42 [(.tmp 9), (.const (.int .i64 3)), (.const (.string ⟨#[]⟩))])), []⟩, ⟨(some 11), none, (.r (.fld 1 0 (.tmp 10))), []⟩, ⟨(some 12), none, (.r (.bld [(.string ⟨#[]⟩), (.int .i64 0), (.int .i64 0), (.int .u32 0), (.int .i64 0)] [(0, 1, (.tmp 11))])), []⟩, ⟨(some 3), none, (.e (.al [(.string ⟨#[]⟩), (.int .i64 0), (.int .i64 0), (.int .u32 0), (.int .i64 0)] 36)), []⟩, ⟨none, none, (.e (.st 5 (.tmp 3) (.tmp 12))), []⟩])
  (.seq (.run [⟨(some 13), none, (.r (.mv (.tmp 0))), []⟩, ⟨(some 14), none, (.c (.fn 42 [(.tmp 13), (.const (.int .i64 1)), (.const (.string ⟨#[97, 116]⟩))])), []⟩])
  (.seq (.run [⟨(some 15), none, (.r (.mv (.tmp 0))), []⟩, ⟨(some 16), none, (.c (.fn 42 [(.tmp 15), (.const (.int .i64 2)), (.const (.string ⟨#[]⟩))])), []⟩, ⟨(some 17), none, (.r (.fld 2 0 (.tmp 16))), []⟩, ⟨(some 18), none, (.r (.fa 1 (.tmp 3))), []⟩, ⟨none, none, (.e (.st 1 (.tmp 18) (.tmp 17))), []⟩])
  (.seq (.run [⟨(some 19), none, (.r (.mv (.tmp 0))), []⟩, ⟨(some 20), none, (.c (.fn 42 [(.tmp 19), (.const (.int .i64 1)), (.const (.string ⟨#[115, 105, 122, 101]⟩))])), []⟩])
  (.seq (.run [⟨(some 21), none, (.r (.mv (.tmp 0))), []⟩, ⟨(some 22), none, (.c (.fn 42 [(.tmp 21), (.const (.int .i64 2)), (.const (.string ⟨#[]⟩))])), []⟩, ⟨(some 23), none, (.r (.fld 2 0 (.tmp 22))), []⟩, ⟨(some 24), none, (.r (.fa 2 (.tmp 3))), []⟩, ⟨none, none, (.e (.st 1 (.tmp 24) (.tmp 23))), []⟩])
  (.seq (.run [⟨(some 25), none, (.r (.mv (.tmp 0))), []⟩, ⟨(some 26), none, (.c (.fn 42 [(.tmp 25), (.const (.int .i64 1)), (.const (.string ⟨#[112, 114, 105, 110, 116]⟩))])), []⟩])
  (.seq (.run [⟨(some 27), none, (.r (.mv (.tmp 0))), []⟩, ⟨(some 28), none, (.c (.fn 42 [(.tmp 27), (.const (.int .i64 2)), (.const (.string ⟨#[]⟩))])), []⟩, ⟨(some 29), none, (.r (.fld 2 0 (.tmp 28))), []⟩, ⟨(some 30), none, (.r (.cvi .u32 (.tmp 29))), []⟩, ⟨(some 31), none, (.r (.fa 3 (.tmp 3))), []⟩, ⟨none, none, (.e (.st 1 (.tmp 31) (.tmp 30))), []⟩])
  (.seq (.run [⟨(some 32), none, (.r (.mv (.tmp 0))), []⟩, ⟨(some 33), none, (.c (.fn 42 [(.tmp 32), (.const (.int .i64 1)), (.const (.string ⟨#[98, 121]⟩))])), []⟩])
  (.seq (.run [⟨(some 34), none, (.r (.mv (.tmp 0))), []⟩, ⟨(some 35), none, (.c (.fn 42 [(.tmp 34), (.const (.int .i64 1)), (.const (.string ⟨#[]⟩))])), []⟩, ⟨(some 4), none, (.e (.al [(.int .i64 0), (.string ⟨#[]⟩), (.int .i64 0), (.int .i64 0)] 78)), []⟩, ⟨none, none, (.e (.st 4 (.tmp 4) (.tmp 35))), []⟩])
  (.seq (.seq (.run [⟨(some 36), none, (.c (.fn 15 [])), []⟩, ⟨(some 37), none, (.r (.lenl (.tmp 36))), []⟩, ⟨(some 38), none, (.r (.mv (.const (.int .i64 0)))), []⟩])
  (.block 0 (.loop rc30_1)))
  rc30_3))))))))))))
def ce30 : List (Nat × List Nat × List Nat) := []
def ro30 : List RO := [(.ldn 5 (.tmp 2))]
theorem ok30 : okFn Tryd.prog 30 65 ce30 = some (rc30, ro30) := by kernel_rfl
/-! lifeline/lifelinelaw16.digits -/
def rc31_0 : RC := (.seq (.run [⟨(some 19), none, (.r (.mv (.tmp 0))), []⟩, ⟨(some 20), none, (.r (.mv (.tmp 1))), []⟩, ⟨(some 21), none, (.r (.bin .quo (.tmp 19) (.tmp 20))), []⟩, ⟨(some 22), none, (.r (.mv (.tmp 1))), []⟩, ⟨(some 24), none, (.r (.mv (.tmp 0))), []⟩, ⟨(some 25), none, (.r (.mv (.tmp 1))), []⟩, ⟨(some 26), none, (.r (.bin .rem (.tmp 24) (.tmp 25))), []⟩, ⟨(some 27), none, (.r (.mv (.tmp 1))), []⟩, ⟨(some 23), none, (.c (.fn 31 [(.tmp 21), (.tmp 22)])), []⟩, ⟨(some 28), none, (.c (.fn 31 [(.tmp 26), (.tmp 27)])), []⟩, ⟨(some 29), none, (.r (.bin .add (.tmp 23) (.tmp 28))), []⟩, ⟨(some 4), none, (.a (.tmp 29)), []⟩])
  .ret)
def rc31_1 : RC := (.seq (.seq (.run [⟨(some 12), none, (.r (.mv (.tmp 0))), []⟩, ⟨(some 13), none, (.r (.mv (.tmp 1))), []⟩, ⟨(some 14), none, (.r (.bin .lss (.tmp 12) (.tmp 13))), []⟩])
  (.cond (.tmp 14)
  (.seq (.run [⟨(some 15), none, (.r (.mv (.tmp 0))), []⟩, ⟨(some 16), none, (.r (.mv (.tmp 0))), []⟩, ⟨(some 17), none, (.r (.bin .add (.tmp 16) (.const (.int .i64 1)))), []⟩, ⟨(some 18), none, (.r (.sls (.const (.string ⟨#[48, 49, 50, 51, 52, 53, 54, 55, 56, 57, 97, 98, 99, 100, 101, 102]⟩)) (some (.tmp 15)) (some (.tmp 17)))), []⟩, ⟨(some 4), none, (.a (.tmp 18)), []⟩])
  .ret)
  .skip))
  rc31_0)
def rc31 : RC := (.seq (.run [⟨(some 4), none, (.a (.const (.string ⟨#[]⟩))), []⟩])
  (.seq (.seq (.run [⟨(some 5), none, (.r (.mv (.tmp 0))), []⟩, ⟨(some 6), none, (.r (.bin .lss (.tmp 5) (.const (.int .i64 0)))), []⟩])
  (.cond (.tmp 6)
  (.seq (.run [⟨(some 7), none, (.r (.mv (.tmp 0))), []⟩, ⟨(some 8), none, (.r (.neg (.tmp 7))), []⟩, ⟨(some 9), none, (.r (.mv (.tmp 1))), []⟩, ⟨(some 10), none, (.c (.fn 31 [(.tmp 8), (.tmp 9)])), []⟩, ⟨(some 11), none, (.r (.bin .add (.const (.string ⟨#[45]⟩)) (.tmp 10))), []⟩, ⟨(some 4), none, (.a (.tmp 11)), []⟩])
  .ret)
  .skip))
  rc31_1))
def ce31 : List (Nat × List Nat × List Nat) := [(5, [0, 1, 2, 3, 5, 6, 7, 8, 4, 9, 10, 11], [0, 0, 3, 0, 15, 0, 0, 96, 0, 511, 1023, 2047])]
def ro31 : List RO := [(.mv (.tmp 4))]
theorem ok31 : okFn Tryd.prog 31 30 ce31 = some (rc31, ro31) := by kernel_rfl
/-! errors.As -/
def rc32_0 : RC := (.seq (.run [⟨(some 37), none, (.r (.mv (.tmp 0))), []⟩, ⟨(some 38), none, (.r (.mv (.tmp 1))), []⟩, ⟨(some 39), none, (.r (.ldn 3 (.tmp 5))), []⟩, ⟨(some 40), none, (.r (.mv (.tmp 7))), []⟩, ⟨(some 41), none, (.c (.fn 46 [(.tmp 37), (.tmp 38), (.tmp 39), (.tmp 40)])), []⟩, ⟨(some 4), none, (.a (.tmp 41)), []⟩])
  .ret)
def rc32_1 : RC := (.seq (.run [⟨(some 25), none, (.r (.mv (.tmp 6))), []⟩, ⟨(some 26), none, (.c (.inv (.tmp 25) "Elem" [])), []⟩, ⟨(some 7), none, (.a (.tmp 26)), []⟩])
  (.seq (.seq (.run [⟨(some 27), none, (.r (.mv (.tmp 7))), []⟩, ⟨(some 28), none, (.c (.inv (.tmp 27) "Kind" [])), []⟩, ⟨(some 29), none, (.r (.bin .neq (.tmp 28) (.const (.int .u8 20)))), []⟩, ⟨(some 30), none, (.r (.mv (.tmp 29))), []⟩, ⟨(some 31), (some (30, true)), (.r (.mv (.tmp 7))), []⟩, ⟨(some 32), (some (30, true)), (.r (.ld (.global 0))), []⟩, ⟨(some 33), (some (30, true)), (.c (.inv (.tmp 31) "Implements" [(.tmp 32)])), []⟩, ⟨(some 34), (some (30, true)), (.r (.not (.tmp 33))), []⟩, ⟨(some 35), none, (.r (.pick (.tmp 30) (.tmp 34) (.const (.bool false)))), []⟩])
  (.cond (.tmp 35)
  (.run [⟨(some 36), none, (.r (.mki 9 (.const (.string ⟨#[101, 114, 114, 111, 114, 115, 58, 32, 42, 116, 97, 114, 103, 101, 116, 32, 109, 117, 115, 116, 32, 98, 101, 32, 105, 110, 116, 101, 114, 102, 97, 99, 101, 32, 111, 114, 32, 105, 109, 112, 108, 101, 109, 101, 110, 116, 32, 101, 114, 114, 111, 114]⟩)))), []⟩, ⟨none, none, .bad, []⟩])
  .skip))
  rc32_0))
def rc32_2 : RC := (.seq (.run [⟨(some 13), none, (.r (.mv (.tmp 1))), []⟩, ⟨(some 14), none, (.c (.fn 43 [(.tmp 13)])), []⟩, ⟨(some 5), none, (.e (.al [(.pointer none), (.pointer none), (.int .u64 0)] 96)), []⟩, ⟨none, none, (.e (.st 3 (.tmp 5) (.tmp 14))), []⟩])
  (.seq (.run [⟨(some 15), none, (.r (.ldn 3 (.tmp 5))), []⟩, ⟨(some 16), none, (.c (.fn 44 [(.tmp 15)])), []⟩, ⟨(some 6), none, (.a (.tmp 16)), []⟩])
  (.seq (.seq (.run [⟨(some 17), none, (.r (.mv (.tmp 6))), []⟩, ⟨(some 18), none, (.c (.inv (.tmp 17) "Kind" [])), []⟩, ⟨(some 19), none, (.r (.bin .neq (.tmp 18) (.const (.int .u8 22)))), []⟩, ⟨(some 20), none, (.r (.mv (.tmp 19))), []⟩, ⟨(some 21), (some (20, false)), (.r (.ldn 3 (.tmp 5))), []⟩, ⟨(some 22), (some (20, false)), (.c (.fn 45 [(.tmp 21)])), []⟩, ⟨(some 23), none, (.r (.pick (.tmp 20) (.const (.bool true)) (.tmp 22))), []⟩])
  (.cond (.tmp 23)
  (.run [⟨(some 24), none, (.r (.mki 9 (.const (.string ⟨#[101, 114, 114, 111, 114, 115, 58, 32, 116, 97, 114, 103, 101, 116, 32, 109, 117, 115, 116, 32, 98, 101, 32, 97, 32, 110, 111, 110, 45, 110, 105, 108, 32, 112, 111, 105, 110, 116, 101, 114]⟩)))), []⟩, ⟨none, none, .bad, []⟩])
  .skip))
  rc32_1)))
def rc32_3 : RC := (.seq (.seq (.run [⟨(some 10), none, (.r (.mv (.tmp 1))), []⟩, ⟨(some 11), none, (.r (.eq false (.iface []) (.tmp 10) (.const .nilIface))), []⟩])
  (.cond (.tmp 11)
  (.run [⟨(some 12), none, (.r (.mki 9 (.const (.string ⟨#[101, 114, 114, 111, 114, 115, 58, 32, 116, 97, 114, 103, 101, 116, 32, 99, 97, 110, 110, 111, 116, 32, 98, 101, 32, 110, 105, 108]⟩)))), []⟩, ⟨none, none, .bad, []⟩])
  .skip))
  rc32_2)
def rc32 : RC := (.seq (.run [⟨(some 4), none, (.a (.const (.bool false))), []⟩])
  (.seq (.seq (.run [⟨(some 8), none, (.r (.mv (.tmp 0))), []⟩, ⟨(some 9), none, (.r (.eq false (.iface []) (.tmp 8) (.const .nilIface))), []⟩])
  (.cond (.tmp 9)
  (.seq (.run [⟨(some 4), none, (.a (.const (.bool false))), []⟩])
  .ret)
  .skip))
  rc32_3))
def ce32 : List (Nat × List Nat × List Nat) := []
def ro32 : List RO := [(.mv (.tmp 4))]
theorem ok32 : okFn Tryd.prog 32 42 ce32 = some (rc32, ro32) := by kernel_rfl
/-! lifeline/header.Name -/
def rc33_0 : RC := (.seq (.block 1 (.seq (.run [⟨(some 10), none, (.r (.mv (.tmp 8))), []⟩, ⟨(some 3), none, (.a (.tmp 10)), []⟩])
  (.seq (.run [⟨(some 11), none, (.r (.mv (.tmp 0))), []⟩, ⟨(some 12), none, (.r (.mv (.tmp 3))), []⟩, ⟨(some 13), none, (.r (.ixs (.tmp 11) (.tmp 12))), []⟩, ⟨(some 4), none, (.a (.tmp 13)), []⟩])
  (.seq (.run [⟨(some 14), none, (.r (.mv (.tmp 4))), []⟩, ⟨(some 15), none, (.r (.bin .geq (.tmp 14) (.const (.int .u8 97)))), []⟩, ⟨(some 16), none, (.r (.mv (.tmp 15))), []⟩, ⟨(some 17), (some (16, true)), (.r (.mv (.tmp 4))), []⟩, ⟨(some 18), (some (16, true)), (.r (.bin .leq (.tmp 17) (.const (.int .u8 122)))), []⟩, ⟨(some 19), none, (.r (.pick (.tmp 16) (.tmp 18) (.const (.bool false)))), []⟩, ⟨(some 20), none, (.r (.mv (.tmp 19))), []⟩, ⟨(some 21), (some (20, false)), (.r (.mv (.tmp 4))), []⟩, ⟨(some 22), (some (20, false)), (.r (.bin .geq (.tmp 21) (.const (.int .u8 65)))), []⟩, ⟨(some 23), (some (20, false)), (.r (.mv (.tmp 22))), []⟩, ⟨(some 24), (some (23, true)), (.r (.mv (.tmp 4))), []⟩, ⟨(some 25), (some (23, true)), (.r (.bin .leq (.tmp 24) (.const (.int .u8 90)))), []⟩, ⟨(some 26), (some (20, false)), (.r (.pick (.tmp 23) (.tmp 25) (.const (.bool false)))), []⟩, ⟨(some 27), none, (.r (.pick (.tmp 20) (.const (.bool true)) (.tmp 26))), []⟩, ⟨(some 5), none, (.a (.tmp 27)), []⟩])
  (.seq (.run [⟨(some 28), none, (.r (.mv (.tmp 5))), []⟩, ⟨(some 29), none, (.r (.not (.tmp 28))), []⟩, ⟨(some 30), none, (.r (.mv (.tmp 29))), []⟩, ⟨(some 31), (some (30, true)), (.r (.mv (.tmp 3))), []⟩, ⟨(some 32), (some (30, true)), (.r (.bin .eql (.tmp 31) (.const (.int .i64 0)))), []⟩, ⟨(some 33), (some (30, true)), (.r (.mv (.tmp 32))), []⟩, ⟨(some 34), (some (33, false)), (.r (.mv (.tmp 4))), []⟩, ⟨(some 35), (some (33, false)), (.r (.bin .neq (.tmp 34) (.const (.int .u8 46)))), []⟩, ⟨(some 36), (some (33, false)), (.r (.mv (.tmp 35))), []⟩, ⟨(some 37), (some (36, true)), (.r (.mv (.tmp 4))), []⟩, ⟨(some 38), (some (36, true)), (.r (.bin .neq (.tmp 37) (.const (.int .u8 45)))), []⟩, ⟨(some 39), (some (33, false)), (.r (.pick (.tmp 36) (.tmp 38) (.const (.bool false)))), []⟩, ⟨(some 40), (some (33, false)), (.r (.mv (.tmp 39))), []⟩, ⟨(some 41), (some (40, true)), (.r (.mv (.tmp 4))), []⟩, ⟨(some 42), (some (40, true)), (.r (.bin .neq (.tmp 41) (.const (.int .u8 95)))), []⟩, ⟨(some 43), (some (33, false)), (.r (.pick (.tmp 40) (.tmp 42) (.const (.bool false)))), []⟩, ⟨(some 44), (some (33, false)), (.r (.mv (.tmp 43))), []⟩, ⟨(some 45), (some (44, true)), (.r (.mv (.tmp 4))), []⟩, ⟨(some 46), (some (44, true)), (.r (.bin .lss (.tmp 45) (.const (.int .u8 48)))), []⟩, ⟨(some 47), (some (44, true)), (.r (.mv (.tmp 46))), []⟩, ⟨(some 48), (some (47, false)), (.r (.mv (.tmp 4))), []⟩, ⟨(some 49), (some (47, false)), (.r (.bin .gtr (.tmp 48) (.const (.int .u8 57)))), []⟩, ⟨(some 50), (some (44, true)), (.r (.pick (.tmp 47) (.const (.bool true)) (.tmp 49))), []⟩, ⟨(some 51), (some (33, false)), (.r (.pick (.tmp 44) (.tmp 50) (.const (.bool false)))), []⟩, ⟨(some 52), (some (30, true)), (.r (.pick (.tmp 33) (.const (.bool true)) (.tmp 51))), []⟩, ⟨(some 53), none, (.r (.pick (.tmp 30) (.tmp 52) (.const (.bool false)))), []⟩])
  (.cond (.tmp 53)
  (.seq (.run [⟨(some 2), none, (.a (.const (.bool false))), []⟩])
  .ret)
  .skip))))))
  (.run [⟨(some 54), none, (.r (.bin .add (.tmp 8) (.const (.int .i64 1)))), []⟩, ⟨(some 8), none, (.r (.mv (.tmp 54))), []⟩]))
def rc33_1 : RC := (.seq (.run [⟨(some 9), none, (.r (.bin .lss (.tmp 8) (.tmp 7))), []⟩])
  (.seq (.cond (.tmp 9)
  .skip
  (.exit 0))
  rc33_0))
def rc33_2 : RC := (.seq (.run [⟨(some 55), none, (.r (.mv (.tmp 0))), []⟩, ⟨(some 56), none, (.r (.lens (.tmp 55))), []⟩, ⟨(some 57), none, (.r (.bin .gtr (.tmp 56) (.const (.int .i64 0)))), []⟩, ⟨(some 58), none, (.r (.mv (.tmp 57))), []⟩, ⟨(some 59), (some (58, true)), (.r (.mv (.tmp 0))), []⟩, ⟨(some 60), (some (58, true)), (.r (.lens (.tmp 59))), []⟩, ⟨(some 61), (some (58, true)), (.r (.bin .leq (.tmp 60) (.const (.int .i64 32)))), []⟩, ⟨(some 62), none, (.r (.pick (.tmp 58) (.tmp 61) (.const (.bool false)))), []⟩, ⟨(some 2), none, (.a (.tmp 62)), []⟩])
  .ret)
def rc33 : RC := (.seq (.run [⟨(some 2), none, (.a (.const (.bool false))), []⟩])
  (.seq (.seq (.run [⟨(some 6), none, (.r (.mv (.tmp 0))), []⟩, ⟨(some 7), none, (.r (.lens (.tmp 6))), []⟩, ⟨(some 8), none, (.r (.mv (.const (.int .i64 0)))), []⟩])
  (.block 0 (.loop rc33_1)))
  rc33_2))
def ce33 : List (Nat × List Nat × List Nat) := []
def ro33 : List RO := [(.mv (.tmp 2))]
theorem ok33 : okFn Tryd.prog 33 63 ce33 = some (rc33, ro33) := by kernel_rfl
/-! lifeline/lifelinelaw05.Name -/
def rc34_0 : RC := (.seq (.block 1 (.seq (.run [⟨(some 10), none, (.r (.mv (.tmp 8))), []⟩, ⟨(some 11), none, (.r (.ia 1 (.tmp 6) (.tmp 8))), []⟩, ⟨(some 12), none, (.r (.ld (.tmp 11))), []⟩, ⟨(some 4), none, (.a (.tmp 10)), []⟩, ⟨(some 5), none, (.a (.tmp 12)), []⟩])
  (.seq (.run [⟨(some 13), none, (.r (.mv (.tmp 4))), []⟩, ⟨(some 14), none, (.r (.bin .lss (.tmp 13) (.const (.int .i64 8)))), []⟩])
  (.cond (.tmp 14)
  (.run [⟨(some 15), none, (.r (.mv (.tmp 3))), []⟩, ⟨(some 16), none, (.r (.mv (.tmp 5))), []⟩, ⟨(some 17), none, (.r (.bin .rem (.tmp 16) (.const (.int .u8 11)))), []⟩, ⟨(some 18), none, (.r (.mv (.tmp 5))), []⟩, ⟨(some 19), none, (.r (.bin .rem (.tmp 18) (.const (.int .u8 11)))), []⟩, ⟨(some 20), none, (.r (.bin .add (.tmp 19) (.const (.int .u8 1)))), []⟩, ⟨(some 21), none, (.r (.sls (.const (.string ⟨#[97, 98, 99, 88, 89, 90, 48, 49, 46, 45, 95]⟩)) (some (.tmp 17)) (some (.tmp 20)))), []⟩, ⟨(some 22), none, (.r (.bin .add (.tmp 15) (.tmp 21))), []⟩, ⟨(some 3), none, (.a (.tmp 22)), []⟩])
  .skip))))
  (.run [⟨(some 23), none, (.r (.bin .add (.tmp 8) (.const (.int .i64 1)))), []⟩, ⟨(some 8), none, (.r (.mv (.tmp 23))), []⟩]))
def rc34_1 : RC := (.seq (.run [⟨(some 9), none, (.r (.bin .lss (.tmp 8) (.tmp 7))), []⟩])
  (.seq (.cond (.tmp 9)
  .skip
  (.exit 0))
  rc34_0))
def rc34_2 : RC := (.seq (.run [⟨(some 24), none, (.r (.mv (.tmp 3))), []⟩, ⟨(some 2), none, (.a (.tmp 24)), []⟩])
  .ret)
def rc34 : RC := (.seq (.run [⟨(some 2), none, (.a (.const (.string ⟨#[]⟩))), []⟩])
  (.seq (.run [⟨(some 3), none, (.a (.const (.string ⟨#[102]⟩))), []⟩])
  (.seq (.seq (.run [⟨(some 6), none, (.r (.mv (.tmp 0))), []⟩, ⟨(some 7), none, (.r (.lenl (.tmp 6))), []⟩, ⟨(some 8), none, (.r (.mv (.const (.int .i64 0)))), []⟩])
  (.block 0 (.loop rc34_1)))
  rc34_2)))
def ce34 : List (Nat × List Nat × List Nat) := []
def ro34 : List RO := [(.mv (.tmp 2))]
theorem ok34 : okFn Tryd.prog 34 25 ce34 = some (rc34, ro34) := by kernel_rfl
/-! (*strings.Builder).WriteByte -/

def rc35 : RC := (.seq (.run [⟨(some 4), none, (.a (.const .nilIface)), []⟩])
  (.seq (.run [⟨(some 5), none, (.r (.mv (.tmp 0))), []⟩, ⟨(some 6), none, (.c (.fn 36 [(.tmp 5)])), []⟩])
  (.seq (.run [⟨(some 7), none, (.r (.mv (.tmp 0))), []⟩, ⟨(some 8), none, (.r (.mv (.tmp 0))), []⟩, ⟨(some 9), none, (.r (.nck (.tmp 8))), []⟩, ⟨(some 10), none, (.r (.fa 1 (.tmp 9))), []⟩, ⟨(some 11), none, (.r (.ld (.tmp 10))), []⟩, ⟨(some 12), none, (.r (.mv (.tmp 1))), []⟩, ⟨(some 13), none, (.e (.bsl 5 1 1 [(.int .u8 0)] [(0, 1, (.tmp 12))])), []⟩, ⟨(some 14), none, (.e (.app 5 1 1 (.tmp 11) (.tmp 13))), []⟩, ⟨(some 15), none, (.r (.nck (.tmp 7))), []⟩, ⟨(some 16), none, (.r (.fa 1 (.tmp 15))), []⟩, ⟨none, none, (.e (.st 1 (.tmp 16) (.tmp 14))), []⟩])
  (.seq (.run [⟨(some 4), none, (.a (.const .nilIface)), []⟩])
  .ret))))
def ce35 : List (Nat × List Nat × List Nat) := []
def ro35 : List RO := [(.mv (.tmp 4))]
theorem ok35 : okFn Tryd.prog 35 17 ce35 = some (rc35, ro35) := by kernel_rfl
/-! (*strings.Builder).copyCheck -/

def rc36 : RC := (.seq (.run [⟨(some 2), none, (.r (.mv (.tmp 0))), []⟩, ⟨(some 3), none, (.r (.nck (.tmp 2))), []⟩, ⟨(some 4), none, (.r (.fa 0 (.tmp 3))), []⟩, ⟨(some 5), none, (.r (.ld (.tmp 4))), []⟩, ⟨(some 6), none, (.r (.eq false .ptr (.tmp 5) (.const (.pointer none)))), []⟩])
  (.cond (.tmp 6)
  (.run [⟨(some 7), none, (.r (.mv (.tmp 0))), []⟩, ⟨(some 8), none, (.r (.mv (.tmp 0))), []⟩, ⟨(some 9), none, (.r (.cvp (.tmp 8))), []⟩, ⟨(some 10), none, (.c (.fn 47 [(.tmp 9)])), []⟩, ⟨(some 11), none, (.r (.cvu 61 2 (.tmp 10))), []⟩, ⟨(some 12), none, (.r (.nck (.tmp 7))), []⟩, ⟨(some 13), none, (.r (.fa 0 (.tmp 12))), []⟩, ⟨none, none, (.e (.st 1 (.tmp 13) (.tmp 11))), []⟩])
  (.seq (.run [⟨(some 14), none, (.r (.mv (.tmp 0))), []⟩, ⟨(some 15), none, (.r (.nck (.tmp 14))), []⟩, ⟨(some 16), none, (.r (.fa 0 (.tmp 15))), []⟩, ⟨(some 17), none, (.r (.ld (.tmp 16))), []⟩, ⟨(some 18), none, (.r (.mv (.tmp 0))), []⟩, ⟨(some 19), none, (.r (.eq true .ptr (.tmp 17) (.tmp 18))), []⟩])
  (.cond (.tmp 19)
  .stop
  .skip))))
def ce36 : List (Nat × List Nat × List Nat) := []
def ro36 : List RO := []
theorem ok36 : okFn Tryd.prog 36 20 ce36 = some (rc36, ro36) := by kernel_rfl
/-! internal/strconv.FormatInt -/
def rc37_0 : RC := (.seq (.run [⟨(some 40), none, (.r (.mv (.tmp 7))), []⟩, ⟨(some 41), none, (.r (.bin .add (.const (.int .i64 1)) (.tmp 40))), []⟩, ⟨(some 42), none, (.r (.sla 24 1 (.tmp 5) (some (.const (.int .i64 1))) (some (.tmp 41)))), []⟩, ⟨(some 43), none, (.r (.b2s (.tmp 42))), []⟩, ⟨(some 4), none, (.a (.tmp 43)), []⟩])
  .ret)
def rc37_1 : RC := (.seq (.run [⟨(some 26), none, (.r (.mv (.tmp 6))), []⟩, ⟨(some 27), none, (.c (.fn 49 [(.tmp 26)])), []⟩, ⟨(some 7), none, (.a (.tmp 27)), []⟩])
  (.seq (.run [⟨(some 28), none, (.r (.mv (.tmp 7))), []⟩, ⟨(some 29), none, (.r (.bin .add (.const (.int .i64 1)) (.tmp 28))), []⟩, ⟨(some 30), none, (.r (.sla 24 1 (.tmp 5) (some (.const (.int .i64 1))) (some (.tmp 29)))), []⟩, ⟨(some 31), none, (.r (.mv (.tmp 6))), []⟩, ⟨(some 32), none, (.c (.fn 50 [(.tmp 30), (.tmp 31)])), []⟩])
  (.seq (.seq (.run [⟨(some 33), none, (.r (.mv (.tmp 0))), []⟩, ⟨(some 34), none, (.r (.bin .lss (.tmp 33) (.const (.int .i64 0)))), []⟩])
  (.cond (.tmp 34)
  (.seq (.run [⟨(some 35), none, (.r (.iaa 24 1 (.tmp 5) (.const (.int .i64 0)))), []⟩, ⟨none, none, (.e (.st 1 (.tmp 35) (.const (.int .u8 45)))), []⟩])
  (.seq (.run [⟨(some 36), none, (.r (.mv (.tmp 7))), []⟩, ⟨(some 37), none, (.r (.bin .add (.const (.int .i64 1)) (.tmp 36))), []⟩, ⟨(some 38), none, (.r (.sla 24 1 (.tmp 5) none (some (.tmp 37)))), []⟩, ⟨(some 39), none, (.r (.b2s (.tmp 38))), []⟩, ⟨(some 4), none, (.a (.tmp 39)), []⟩])
  .ret))
  .skip))
  rc37_0)))
def rc37_2 : RC := (.seq (.run [⟨(some 5), none, (.e (.al [(.int .u8 0), (.int .u8 0), (.int .u8 0), (.int .u8 0), (.int .u8 0), (.int .u8 0), (.int .u8 0), (.int .u8 0), (.int .u8 0), (.int .u8 0), (.int .u8 0), (.int .u8 0), (.int .u8 0), (.int .u8 0), (.int .u8 0), (.int .u8 0), (.int .u8 0), (.int .u8 0), (.int .u8 0), (.int .u8 0), (.int .u8 0), (.int .u8 0), (.int .u8 0), (.int .u8 0)] 106)), []⟩])
  (.seq (.run [⟨(some 20), none, (.r (.mv (.tmp 0))), []⟩, ⟨(some 21), none, (.r (.cvi .u64 (.tmp 20))), []⟩, ⟨(some 6), none, (.a (.tmp 21)), []⟩])
  (.seq (.seq (.run [⟨(some 22), none, (.r (.mv (.tmp 0))), []⟩, ⟨(some 23), none, (.r (.bin .lss (.tmp 22) (.const (.int .i64 0)))), []⟩])
  (.cond (.tmp 23)
  (.run [⟨(some 24), none, (.r (.mv (.tmp 6))), []⟩, ⟨(some 25), none, (.r (.neg (.tmp 24))), []⟩, ⟨(some 6), none, (.a (.tmp 25)), []⟩])
  .skip))
  rc37_1)))
def rc37_3 : RC := (.seq (.run [⟨(some 45), none, (.r (.mv (.tmp 0))), []⟩, ⟨(some 46), none, (.r (.cvi .u64 (.tmp 45))), []⟩, ⟨(some 47), none, (.r (.mv (.tmp 1))), []⟩, ⟨(some 48), none, (.r (.mv (.tmp 0))), []⟩, ⟨(some 49), none, (.r (.bin .lss (.tmp 48) (.const (.int .i64 0)))), []⟩, ⟨(some 50), none, (.c (.fn 51 [(.const (.slice none 0 0)), (.tmp 46), (.tmp 47), (.tmp 49), (.const (.bool false))])), []⟩, ⟨(some 44), none, (.r (.mv (.tmp 50))), []⟩, ⟨(some 51), none, (.r (.ext 0 (.tmp 44))), []⟩, ⟨(some 52), none, (.r (.ext 1 (.tmp 44))), []⟩, ⟨(some 8), none, (.a (.tmp 51)), []⟩, ⟨(some 9), none, (.a (.tmp 52)), []⟩])
  (.seq (.run [⟨(some 53), none, (.r (.mv (.tmp 9))), []⟩, ⟨(some 4), none, (.a (.tmp 53)), []⟩])
  .ret))
def rc37 : RC := (.seq (.run [⟨(some 4), none, (.a (.const (.string ⟨#[]⟩))), []⟩])
  (.seq (.seq (.run [⟨(some 10), none, (.r (.mv (.tmp 1))), []⟩, ⟨(some 11), none, (.r (.bin .eql (.tmp 10) (.const (.int .i64 10)))), []⟩])
  (.cond (.tmp 11)
  (.seq (.seq (.run [⟨(some 12), none, (.r (.mv (.tmp 0))), []⟩, ⟨(some 13), none, (.r (.bin .leq (.const (.int .i64 0)) (.tmp 12))), []⟩, ⟨(some 14), none, (.r (.mv (.tmp 13))), []⟩, ⟨(some 15), (some (14, true)), (.r (.mv (.tmp 0))), []⟩, ⟨(some 16), (some (14, true)), (.r (.bin .lss (.tmp 15) (.const (.int .i64 100)))), []⟩, ⟨(some 17), none, (.r (.pick (.tmp 14) (.tmp 16) (.const (.bool false)))), []⟩])
  (.cond (.tmp 17)
  (.seq (.run [⟨(some 18), none, (.r (.mv (.tmp 0))), []⟩, ⟨(some 19), none, (.c (.fn 48 [(.tmp 18)])), []⟩, ⟨(some 4), none, (.a (.tmp 19)), []⟩])
  .ret)
  .skip))
  rc37_2)
  .skip))
  rc37_3))
def ce37 : List (Nat × List Nat × List Nat) := []
def ro37 : List RO := [(.mv (.tmp 4))]
theorem ok37 : okFn Tryd.prog 37 54 ce37 = some (rc37, ro37) := by kernel_rfl
/-! internal/strconv.Itoa -/

def rc38 : RC := (.seq (.run [⟨(some 2), none, (.a (.const (.string ⟨#[]⟩))), []⟩])
  (.seq (.run [⟨(some 3), none, (.r (.mv (.tmp 0))), []⟩, ⟨(some 4), none, (.c (.fn 37 [(.tmp 3), (.const (.int .i64 10))])), []⟩, ⟨(some 2), none, (.a (.tmp 4)), []⟩])
  .ret))
def ce38 : List (Nat × List Nat × List Nat) := []
def ro38 : List RO := [(.mv (.tmp 2))]
theorem ok38 : okFn Tryd.prog 38 5 ce38 = some (rc38, ro38) := by kernel_rfl
/-! internal/strconv.FormatUint -/
def rc39_0 : RC := (.seq (.run [⟨(some 5), none, (.e (.al [(.int .u8 0), (.int .u8 0), (.int .u8 0), (.int .u8 0), (.int .u8 0), (.int .u8 0), (.int .u8 0), (.int .u8 0), (.int .u8 0), (.int .u8 0), (.int .u8 0), (.int .u8 0), (.int .u8 0), (.int .u8 0), (.int .u8 0), (.int .u8 0), (.int .u8 0), (.int .u8 0), (.int .u8 0), (.int .u8 0), (.int .u8 0), (.int .u8 0), (.int .u8 0), (.int .u8 0)] 106)), []⟩])
  (.seq (.run [⟨(some 16), none, (.r (.mv (.tmp 0))), []⟩, ⟨(some 17), none, (.c (.fn 49 [(.tmp 16)])), []⟩, ⟨(some 6), none, (.a (.tmp 17)), []⟩])
  (.seq (.run [⟨(some 18), none, (.r (.mv (.tmp 6))), []⟩, ⟨(some 19), none, (.r (.sla 24 1 (.tmp 5) none (some (.tmp 18)))), []⟩, ⟨(some 20), none, (.r (.mv (.tmp 0))), []⟩, ⟨(some 21), none, (.c (.fn 50 [(.tmp 19), (.tmp 20)])), []⟩])
  (.seq (.run [⟨(some 22), none, (.r (.mv (.tmp 6))), []⟩, ⟨(some 23), none, (.r (.sla 24 1 (.tmp 5) none (some (.tmp 22)))), []⟩, ⟨(some 24), none, (.r (.b2s (.tmp 23))), []⟩, ⟨(some 4), none, (.a (.tmp 24)), []⟩])
  .ret))))
def rc39_1 : RC := (.seq (.run [⟨(some 26), none, (.r (.mv (.tmp 0))), []⟩, ⟨(some 27), none, (.r (.mv (.tmp 1))), []⟩, ⟨(some 28), none, (.c (.fn 51 [(.const (.slice none 0 0)), (.tmp 26), (.tmp 27), (.const (.bool false)), (.const (.bool false))])), []⟩, ⟨(some 25), none, (.r (.mv (.tmp 28))), []⟩, ⟨(some 29), none, (.r (.ext 0 (.tmp 25))), []⟩, ⟨(some 30), none, (.r (.ext 1 (.tmp 25))), []⟩, ⟨(some 7), none, (.a (.tmp 29)), []⟩, ⟨(some 8), none, (.a (.tmp 30)), []⟩])
  (.seq (.run [⟨(some 31), none, (.r (.mv (.tmp 8))), []⟩, ⟨(some 4), none, (.a (.tmp 31)), []⟩])
  .ret))
def rc39 : RC := (.seq (.run [⟨(some 4), none, (.a (.const (.string ⟨#[]⟩))), []⟩])
  (.seq (.seq (.run [⟨(some 9), none, (.r (.mv (.tmp 1))), []⟩, ⟨(some 10), none, (.r (.bin .eql (.tmp 9) (.const (.int .i64 10)))), []⟩])
  (.cond (.tmp 10)
  (.seq (.seq (.run [⟨(some 11), none, (.r (.mv (.tmp 0))), []⟩, ⟨(some 12), none, (.r (.bin .lss (.tmp 11) (.const (.int .u64 100)))), []⟩])
  (.cond (.tmp 12)
  (.seq (.run [⟨(some 13), none, (.r (.mv (.tmp 0))), []⟩, ⟨(some 14), none, (.r (.cvi .i64 (.tmp 13))), []⟩, ⟨(some 15), none, (.c (.fn 48 [(.tmp 14)])), []⟩, ⟨(some 4), none, (.a (.tmp 15)), []⟩])
  .ret)
  .skip))
  rc39_0)
  .skip))
  rc39_1))
def ce39 : List (Nat × List Nat × List Nat) := []
def ro39 : List RO := [(.mv (.tmp 4))]
theorem ok39 : okFn Tryd.prog 39 32 ce39 = some (rc39, ro39) := by kernel_rfl
/-! lifeline/api.Wrap -/

def rc40 : RC := (.seq (.run [⟨(some 4), none, (.a (.const .nilIface)), []⟩])
  (.seq (.run [⟨(some 5), none, (.r (.mv (.tmp 0))), []⟩, ⟨(some 6), none, (.r (.mv (.tmp 1))), []⟩, ⟨(some 7), none, (.r (.bld [(.int .i64 0), (.int .i64 0)] [(0, 1, (.tmp 5)), (1, 1, (.tmp 6))])), []⟩, ⟨(some 8), none, (.r (.mki 84 (.tmp 7))), []⟩, ⟨(some 4), none, (.a (.tmp 8)), []⟩])
  .ret))
def ce40 : List (Nat × List Nat × List Nat) := []
def ro40 : List RO := [(.mv (.tmp 4))]
theorem ok40 : okFn Tryd.prog 40 9 ce40 = some (rc40, ro40) := by kernel_rfl
/-! lifeline/token.one -/
def rc41_0 : RC := (.seq (.run [⟨(some 58), none, (.r (.bld [(.int .i64 0), (.string ⟨#[]⟩), (.int .i64 0), (.int .i64 0)] [])), []⟩, ⟨none, none, (.e (.st 4 (.tmp 2) (.tmp 58))), []⟩, ⟨(some 3), none, (.a (.const (.int .i64 0))), []⟩])
  .ret)
def rc41 : RC := (.seq (.run [⟨(some 2), none, (.e (.al [(.int .i64 0), (.string ⟨#[]⟩), (.int .i64 0), (.int .i64 0)] 78)), []⟩, ⟨(some 3), none, (.a (.const (.int .i64 0))), []⟩])
  (.seq (.seq (.run [⟨(some 12), none, (.r (.mv (.tmp 0))), []⟩, ⟨(some 13), none, (.r (.ixs (.tmp 12) (.const (.int .i64 0)))), []⟩, ⟨(some 4), none, (.a (.tmp 13)), []⟩])
  (.block 0 (.seq (.run [⟨(some 15), none, (.r (.mv (.tmp 4))), []⟩, ⟨(some 16), none, (.c (.fn 52 [(.tmp 15)])), []⟩, ⟨(some 14), none, (.a (.tmp 16)), []⟩])
  (.cond (.tmp 14)
  (.seq (.run [⟨(some 17), none, (.r (.mv (.tmp 0))), []⟩, ⟨(some 18), none, (.c (.fn 53 [(.tmp 17)])), []⟩, ⟨(some 5), none, (.a (.tmp 18)), []⟩])
  (.seq (.run [⟨(some 19), none, (.r (.mv (.tmp 0))), []⟩, ⟨(some 20), none, (.r (.mv (.tmp 5))), []⟩, ⟨(some 21), none, (.r (.sls (.tmp 19) none (some (.tmp 20)))), []⟩, ⟨(some 22), none, (.r (.bld [(.int .i64 0), (.string ⟨#[]⟩), (.int .i64 0), (.int .i64 0)] [(0, 1, (.const (.int .i64 1))), (1, 1, (.tmp 21))])), []⟩, ⟨(some 23), none, (.r (.mv (.tmp 5))), []⟩, ⟨none, none, (.e (.st 4 (.tmp 2) (.tmp 22))), []⟩, ⟨(some 3), none, (.a (.tmp 23)), []⟩])
  .ret))
  (.seq (.run [⟨(some 25), none, (.r (.mv (.tmp 4))), []⟩, ⟨(some 26), none, (.c (.fn 54 [(.tmp 25)])), []⟩, ⟨(some 24), none, (.a (.tmp 26)), []⟩])
  (.cond (.tmp 24)
  (.seq (.run [⟨(some 28), none, (.r (.mv (.tmp 0))), []⟩, ⟨(some 29), none, (.c (.fn 55 [(.tmp 28)])), []⟩, ⟨(some 27), none, (.r (.mv (.tmp 29))), []⟩, ⟨(some 30), none, (.r (.ext 0 (.tmp 27))), []⟩, ⟨(some 31), none, (.r (.ext 1 (.tmp 27))), []⟩, ⟨(some 32), none, (.r (.ext 2 (.tmp 27))), []⟩, ⟨(some 6), none, (.a (.tmp 30)), []⟩, ⟨(some 7), none, (.a (.tmp 31)), []⟩, ⟨(some 8), none, (.a (.tmp 32)), []⟩])
  (.seq (.run [⟨(some 33), none, (.r (.mv (.tmp 0))), []⟩, ⟨(some 34), none, (.r (.mv (.tmp 6))), []⟩, ⟨(some 35), none, (.r (.sls (.tmp 33) none (some (.tmp 34)))), []⟩, ⟨(some 36), none, (.r (.mv (.tmp 7))), []⟩, ⟨(some 37), none, (.r (.bld [(.int .i64 0), (.string ⟨#[]⟩), (.int .i64 0), (.int .i64 0)] [(0, 1, (.const (.int .i64 2))), (1, 1, (.tmp 35)), (2, 1, (.tmp 36))])), []⟩, ⟨(some 38), none, (.r (.mv (.tmp 6))), []⟩, ⟨none, none, (.e (.st 4 (.tmp 2) (.tmp 37))), []⟩, ⟨(some 3), none, (.a (.tmp 38)), []⟩])
  .ret))
  (.seq (.run [⟨(some 40), none, (.r (.mv (.tmp 4))), []⟩, ⟨(some 41), none, (.r (.bin .eql (.tmp 40) (.const (.int .u8 34)))), []⟩, ⟨(some 39), none, (.a (.tmp 41)), []⟩])
  (.cond (.tmp 39)
  (.seq (.run [⟨(some 43), none, (.r (.mv (.tmp 0))), []⟩, ⟨(some 44), none, (.c (.fn 56 [(.tmp 43)])), []⟩, ⟨(some 42), none, (.r (.mv (.tmp 44))), []⟩, ⟨(some 45), none, (.r (.ext 0 (.tmp 42))), []⟩, ⟨(some 46), none, (.r (.ext 1 (.tmp 42))), []⟩, ⟨(some 47), none, (.r (.ext 2 (.tmp 42))), []⟩, ⟨(some 9), none, (.a (.tmp 45)), []⟩, ⟨(some 10), none, (.a (.tmp 46)), []⟩, ⟨(some 11), none, (.a (.tmp 47)), []⟩])
  (.seq (.run [⟨(some 48), none, (.r (.mv (.tmp 10))), []⟩, ⟨(some 49), none, (.r (.bld [(.int .i64 0), (.string ⟨#[]⟩), (.int .i64 0), (.int .i64 0)] [(0, 1, (.const (.int .i64 3))), (1, 1, (.tmp 48))])), []⟩, ⟨(some 50), none, (.r (.mv (.tmp 9))), []⟩, ⟨none, none, (.e (.st 4 (.tmp 2) (.tmp 49))), []⟩, ⟨(some 3), none, (.a (.tmp 50)), []⟩])
  .ret))
  (.seq (.run [⟨(some 52), none, (.r (.mv (.tmp 4))), []⟩, ⟨(some 53), none, (.c (.fn 57 [(.const (.string ⟨#[58, 59, 44, 123, 125]⟩)), (.tmp 52)])), []⟩, ⟨(some 54), none, (.r (.bin .geq (.tmp 53) (.const (.int .i64 0)))), []⟩, ⟨(some 51), none, (.a (.tmp 54)), []⟩])
  (.cond (.tmp 51)
  (.seq (.run [⟨(some 55), none, (.r (.mv (.tmp 0))), []⟩, ⟨(some 56), none, (.r (.sls (.tmp 55) none (some (.const (.int .i64 1))))), []⟩, ⟨(some 57), none, (.r (.bld [(.int .i64 0), (.string ⟨#[]⟩), (.int .i64 0), (.int .i64 0)] [(0, 1, (.const (.int .i64 4))), (1, 1, (.tmp 56))])), []⟩, ⟨none, none, (.e (.st 4 (.tmp 2) (.tmp 57))), []⟩, ⟨(some 3), none, (.a (.const (.int .i64 1))), []⟩])
  .ret)
  .skip))))))))))
  rc41_0))
def ce41 : List (Nat × List Nat × List Nat) := []
def ro41 : List RO := [(.ldn 4 (.tmp 2)), (.mv (.tmp 3))]
theorem ok41 : okFn Tryd.prog 41 59 ce41 = some (rc41, ro41) := by kernel_rfl
/-! (*lifeline/manifest.parser).take -/
def rc42_0 : RC := (.seq (.run [⟨(some 40), none, (.r (.mv (.tmp 0))), []⟩, ⟨(some 41), none, (.r (.nck (.tmp 40))), []⟩, ⟨(some 42), none, (.r (.fa 1 (.tmp 41))), []⟩, ⟨(some 43), none, (.r (.ld (.tmp 42))), []⟩, ⟨(some 44), none, (.r (.bin .add (.tmp 43) (.const (.int .i64 1)))), []⟩, ⟨(some 45), none, (.r (.nck (.tmp 40))), []⟩, ⟨(some 46), none, (.r (.fa 1 (.tmp 45))), []⟩, ⟨none, none, (.e (.st 1 (.tmp 46) (.tmp 44))), []⟩])
  (.seq (.run [⟨(some 47), none, (.r (.ldn 4 (.tmp 7))), []⟩, ⟨none, none, (.e (.st 4 (.tmp 6) (.tmp 47))), []⟩])
  .ret))
def rc42_1 : RC := (.seq (.seq (.run [⟨(some 34), none, (.r (.mv (.tmp 0))), []⟩, ⟨(some 35), none, (.r (.nck (.tmp 34))), []⟩, ⟨(some 36), none, (.r (.fa 2 (.tmp 35))), []⟩, ⟨(some 37), none, (.r (.ld (.tmp 36))), []⟩, ⟨(some 38), none, (.r (.eq true (.iface []) (.tmp 37) (.const .nilIface))), []⟩])
  (.cond (.tmp 38)
  (.seq (.run [⟨(some 39), none, (.r (.bld [(.int .i64 0), (.string ⟨#[]⟩), (.int .i64 0), (.int .i64 0)] [])), []⟩, ⟨none, none, (.e (.st 4 (.tmp 6) (.tmp 39))), []⟩])
  .ret)
  .skip))
  rc42_0)
def rc42 : RC := (.seq (.run [⟨(some 6), none, (.e (.al [(.int .i64 0), (.string ⟨#[]⟩), (.int .i64 0), (.int .i64 0)] 78)), []⟩])
  (.seq (.run [⟨(some 8), none, (.r (.mv (.tmp 0))), []⟩, ⟨(some 9), none, (.r (.nck (.tmp 8))), []⟩, ⟨(some 10), none, (.r (.fa 0 (.tmp 9))), []⟩, ⟨(some 11), none, (.r (.ld (.tmp 10))), []⟩, ⟨(some 12), none, (.r (.mv (.tmp 0))), []⟩, ⟨(some 13), none, (.r (.nck (.tmp 12))), []⟩, ⟨(some 14), none, (.r (.fa 1 (.tmp 13))), []⟩, ⟨(some 15), none, (.r (.ld (.tmp 14))), []⟩, ⟨(some 16), none, (.r (.ia 4 (.tmp 11) (.tmp 15))), []⟩, ⟨(some 17), none, (.r (.ldn 4 (.tmp 16))), []⟩, ⟨(some 7), none, (.e (.al [(.int .i64 0), (.string ⟨#[]⟩), (.int .i64 0), (.int .i64 0)] 78)), [(11, none, .ld (.tmp 10)), (15, none, .ld (.tmp 14)), (17, none, .ldn 4 (.tmp 16))]⟩, ⟨none, none, (.e (.st 4 (.tmp 7) (.tmp 17))), []⟩])
  (.seq (.seq (.run [⟨(some 18), none, (.r (.fa 0 (.tmp 7))), []⟩, ⟨(some 19), none, (.r (.ld (.tmp 18))), []⟩, ⟨(some 20), none, (.r (.mv (.tmp 1))), []⟩, ⟨(some 21), none, (.r (.bin .neq (.tmp 19) (.tmp 20))), []⟩, ⟨(some 22), none, (.r (.mv (.tmp 21))), []⟩, ⟨(some 23), (some (22, false)), (.r (.mv (.tmp 2))), []⟩, ⟨(some 24), (some (22, false)), (.r (.bin .neq (.tmp 23) (.const (.string ⟨#[]⟩)))), []⟩, ⟨(some 25), (some (22, false)), (.r (.mv (.tmp 24))), []⟩, ⟨(some 26), (some (25, true)), (.r (.fa 1 (.tmp 7))), []⟩, ⟨(some 27), (some (25, true)), (.r (.ld (.tmp 26))), []⟩, ⟨(some 28), (some (25, true)), (.r (.mv (.tmp 2))), []⟩, ⟨(some 29), (some (25, true)), (.r (.bin .neq (.tmp 27) (.tmp 28))), []⟩, ⟨(some 30), (some (22, false)), (.r (.pick (.tmp 25) (.tmp 29) (.const (.bool false)))), []⟩, ⟨(some 31), none, (.r (.pick (.tmp 22) (.const (.bool true)) (.tmp 30))), []⟩])
  (.cond (.tmp 31)
  (.run [⟨(some 32), none, (.r (.mv (.tmp 0))), []⟩, ⟨(some 33), none, (.c (.fn 58 [(.tmp 32), (.const (.int .i64 2))])), []⟩])
  .skip))
  rc42_1)))
def ce42 : List (Nat × List Nat × List Nat) := [(1, [0, 1, 2, 3, 4, 5, 6, 7, 8, 9, 10, 11], [0, 1, 3, 7, 0, 16, 48, 112, 255, 511, 0, 2047])]
def ro42 : List RO := [(.ldn 4 (.tmp 6))]
theorem ok42 : okFn Tryd.prog 42 48 ce42 = some (rc42, ro42) := by kernel_rfl
/-! errors.as -/
def rc46_0 : RC := (.seq (.run [⟨(some 56), none, (.r (.mv (.tmp 14))), []⟩, ⟨(some 57), none, (.r (.mv (.tmp 1))), []⟩, ⟨(some 58), none, (.r (.ldn 3 (.tmp 6))), []⟩, ⟨(some 59), none, (.r (.mv (.tmp 3))), []⟩, ⟨(some 60), none, (.c (.fn 46 [(.tmp 56), (.tmp 57), (.tmp 58), (.tmp 59)])), []⟩])
  (.cond (.tmp 60)
  (.seq (.run [⟨(some 8), none, (.a (.const (.bool true))), []⟩])
  .ret)
  .skip))
def rc46_1 : RC := (.seq (.block 4 (.seq (.run [⟨(some 52), none, (.r (.ia 1 (.tmp 48) (.tmp 50))), []⟩, ⟨(some 53), none, (.r (.ld (.tmp 52))), []⟩, ⟨(some 14), none, (.a (.tmp 53)), []⟩])
  (.seq (.seq (.run [⟨(some 54), none, (.r (.mv (.tmp 14))), []⟩, ⟨(some 55), none, (.r (.eq false (.iface []) (.tmp 54) (.const .nilIface))), []⟩])
  (.cond (.tmp 55)
  (.exit 4)
  .skip))
  rc46_0)))
  (.run [⟨(some 61), none, (.r (.bin .add (.tmp 50) (.const (.int .i64 1)))), []⟩, ⟨(some 50), none, (.r (.mv (.tmp 61))), []⟩]))
def rc46_2 : RC := (.seq (.run [⟨(some 51), none, (.r (.bin .lss (.tmp 50) (.tmp 49))), []⟩])
  (.seq (.cond (.tmp 51)
  .skip
  (.exit 3))
  rc46_1))
def rc46_3 : RC := (.seq (.run [⟨(some 8), none, (.a (.const (.bool false))), []⟩])
  .ret)
def rc46_4 : RC := (.seq (.run [⟨(some 36), none, (.r (.mv (.tmp 0))), []⟩])
  (.block 2 (.seq (.run [⟨(some 37), none, .bad, []⟩, ⟨(some 38), none, (.r (.ext 1 (.tmp 37))), []⟩, ⟨(some 39), none, (.r (.ext 0 (.tmp 37))), []⟩])
  (.cond (.tmp 38)
  (.seq (.run [⟨(some 11), none, (.a (.tmp 39)), []⟩])
  (.seq (.run [⟨(some 40), none, (.r (.mv (.tmp 11))), []⟩, ⟨(some 41), none, (.c (.inv (.tmp 40) "Unwrap" [])), []⟩, ⟨(some 0), none, (.a (.tmp 41)), []⟩])
  (.seq (.run [⟨(some 42), none, (.r (.mv (.tmp 0))), []⟩, ⟨(some 43), none, (.r (.eq false (.iface []) (.tmp 42) (.const .nilIface))), []⟩])
  (.cond (.tmp 43)
  (.seq (.run [⟨(some 8), none, (.a (.const (.bool false))), []⟩])
  .ret)
  .skip))))
  (.seq (.run [⟨(some 44), none, .bad, []⟩, ⟨(some 45), none, (.r (.ext 1 (.tmp 44))), []⟩, ⟨(some 46), none, (.r (.ext 0 (.tmp 44))), []⟩])
  (.cond (.tmp 45)
  (.seq (.run [⟨(some 12), none, (.a (.tmp 46)), []⟩])
  (.seq (.seq (.run [⟨(some 47), none, (.r (.mv (.tmp 12))), []⟩, ⟨(some 48), none, (.c (.inv (.tmp 47) "Unwrap" [])), []⟩, ⟨(some 49), none, (.r (.lenl (.tmp 48))), []⟩, ⟨(some 50), none, (.r (.mv (.const (.int .i64 0)))), []⟩])
  (.block 3 (.loop rc46_2)))
  rc46_3))
  (.seq (.run [⟨(some 15), none, (.a (.tmp 36)), []⟩])
  (.seq (.run [⟨(some 8), none, (.a (.const (.bool false))), []⟩])
  .ret))))))))
def rc46_5 : RC := (.seq (.seq (.run [⟨(some 26), none, (.r (.mv (.tmp 0))), []⟩, ⟨(some 27), none, .bad, []⟩, ⟨(some 25), none, (.r (.mv (.tmp 27))), []⟩, ⟨(some 28), none, (.r (.ext 0 (.tmp 25))), []⟩, ⟨(some 29), none, (.r (.ext 1 (.tmp 25))), []⟩, ⟨(some 9), none, (.a (.tmp 28)), []⟩, ⟨(some 10), none, (.a (.tmp 29)), []⟩])
  (.seq (.run [⟨(some 30), none, (.r (.mv (.tmp 10))), []⟩, ⟨(some 31), none, (.r (.mv (.tmp 30))), []⟩, ⟨(some 32), (some (31, true)), (.r (.mv (.tmp 9))), []⟩, ⟨(some 33), (some (31, true)), (.r (.mv (.tmp 1))), []⟩, ⟨(some 34), (some (31, true)), (.c (.inv (.tmp 32) "As" [(.tmp 33)])), []⟩, ⟨(some 35), none, (.r (.pick (.tmp 31) (.tmp 34) (.const (.bool false)))), []⟩])
  (.cond (.tmp 35)
  (.seq (.run [⟨(some 8), none, (.a (.const (.bool true))), []⟩])
  .ret)
  .skip)))
  rc46_4)
def rc46_6 : RC := (.block 1 (.seq (.seq (.run [⟨(some 16), none, (.r (.mv (.tmp 0))), []⟩, ⟨(some 17), none, (.c (.fn 59 [(.tmp 16)])), []⟩, ⟨(some 18), none, (.r (.mv (.tmp 3))), []⟩, ⟨(some 19), none, (.c (.inv (.tmp 17) "AssignableTo" [(.tmp 18)])), []⟩])
  (.cond (.tmp 19)
  (.seq (.run [⟨(some 20), none, (.r (.ldn 3 (.tmp 6))), []⟩, ⟨(some 21), none, (.c (.fn 60 [(.tmp 20)])), []⟩, ⟨(some 22), none, (.r (.mv (.tmp 0))), []⟩, ⟨(some 23), none, (.c (.fn 43 [(.tmp 22)])), []⟩, ⟨(some 24), none, (.c (.fn 61 [(.tmp 21), (.tmp 23)])), []⟩])
  (.seq (.run [⟨(some 8), none, (.a (.const (.bool true))), []⟩])
  .ret))
  .skip))
  rc46_5))
def rc46 : RC := (.seq (.run [⟨(some 6), none, (.e (.bx 96 (.tmp 2))), []⟩, ⟨(some 8), none, (.a (.const (.bool false))), []⟩])
  (.block 0 (.loop rc46_6)))
def ce46 : List (Nat × List Nat × List Nat) := []
def ro46 : List RO := [(.mv (.tmp 8))]
theorem ok46 : okFn Tryd.prog 46 62 ce46 = some (rc46, ro46) := by kernel_rfl
/-! internal/strconv.small -/
def rc48_0 : RC := (.seq (.run [⟨(some 9), none, (.r (.mv (.tmp 0))), []⟩, ⟨(some 10), none, (.r (.bin .mul (.tmp 9) (.const (.int .i64 2)))), []⟩, ⟨(some 11), none, (.r (.mv (.tmp 0))), []⟩, ⟨(some 12), none, (.r (.bin .mul (.tmp 11) (.const (.int .i64 2)))), []⟩, ⟨(some 13), none, (.r (.bin .add (.tmp 12) (.const (.int .i64 2)))), []⟩, ⟨(some 14), none, (.r (.sls (.const (.string ⟨#[48, 48, 48, 49, 48, 50, 48, 51, 48, 52, 48, 53, 48, 54, 48, 55, 48, 56, 48, 57, 49, 48, 49, 49, 49, 50, 49, 51, 49, 52, 49, 53, 49, 54, 49, 55, 49, 56, 49, 57, 50, 48, 50, 49, 50, 50, 50, 51, 50, 52, 50, 53, 50, 54, 50, 55, 50, 56, 50, 57, 51, 48, 51, 49, 51, 50, 51, 51, 51, 52, 51, 53, 51, 54, 51, 55, 51, 56, 51, 57, 52, 48, 52, 49, 52, 50, 52, 51, 52, 52, 52, 53, 52, 54, 52, 55, 52, 56, 52, 57, 53, 48, 53, 49, 53, 50, 53, 51, 53, 52, 53, 53, 53, 54, 53, 55, 53, 56, 53, 57, 54, 48, 54, 49, 54, 50, 54, 51, 54, 52, 54, 53, 54, 54, 54, 55, 54, 56, 54, 57, 55, 48, 55, 49, 55, 50, 55, 51, 55, 52, 55, 53, 55, 54, 55, 55, 55, 56, 55, 57, 56, 48, 56, 49, 56, 50, 56, 51, 56, 52, 56, 53, 56, 54, 56, 55, 56, 56, 56, 57, 57, 48, 57, 49, 57, 50, 57, 51, 57, 52, 57, 53, 57, 54, 57, 55, 57, 56, 57, 57]⟩)) (some (.tmp 10)) (some (.tmp 13)))), []⟩, ⟨(some 2), none, (.a (.tmp 14)), []⟩])
  .ret)
def rc48 : RC := (.seq (.run [⟨(some 2), none, (.a (.const (.string ⟨#[]⟩))), []⟩])
  (.seq (.seq (.run [⟨(some 3), none, (.r (.mv (.tmp 0))), []⟩, ⟨(some 4), none, (.r (.bin .lss (.tmp 3) (.const (.int .i64 10)))), []⟩])
  (.cond (.tmp 4)
  (.seq (.run [⟨(some 5), none, (.r (.mv (.tmp 0))), []⟩, ⟨(some 6), none, (.r (.mv (.tmp 0))), []⟩, ⟨(some 7), none, (.r (.bin .add (.tmp 6) (.const (.int .i64 1)))), []⟩, ⟨(some 8), none, (.r (.sls (.const (.string ⟨#[48, 49, 50, 51, 52, 53, 54, 55, 56, 57, 97, 98, 99, 100, 101, 102, 103, 104, 105, 106, 107, 108, 109, 110, 111, 112, 113, 114, 115, 116, 117, 118, 119, 120, 121, 122]⟩)) (some (.tmp 5)) (some (.tmp 7)))), []⟩, ⟨(some 2), none, (.a (.tmp 8)), []⟩])
  .ret)
  .skip))
  rc48_0))
def ce48 : List (Nat × List Nat × List Nat) := []
def ro48 : List RO := [(.mv (.tmp 2))]
theorem ok48 : okFn Tryd.prog 48 15 ce48 = some (rc48, ro48) := by kernel_rfl
/-! internal/strconv.numDigits -/

def rc49 : RC := (.seq (.run [⟨(some 2), none, (.a (.const (.int .i64 0))), []⟩])
  (.seq (.run [⟨(some 4), none, (.r (.mv (.tmp 0))), []⟩, ⟨(some 5), none, (.c (.fn 63 [(.tmp 4)])), []⟩, ⟨(some 6), none, (.c (.fn 62 [(.tmp 5)])), []⟩, ⟨(some 3), none, (.a (.tmp 6)), []⟩])
  (.seq (.run [⟨(some 7), none, (.r (.mv (.tmp 3))), []⟩, ⟨(some 8), none, (.r (.mv (.tmp 0))), []⟩, ⟨(some 9), none, (.r (.mv (.tmp 3))), []⟩, ⟨(some 10), none, (.r (.iaa 20 1 (.global 1) (.tmp 9))), []⟩, ⟨(some 11), none, (.r (.ld (.tmp 10))), []⟩, ⟨(some 12), none, (.r (.bin .geq (.tmp 8) (.tmp 11))), []⟩, ⟨(some 13), none, (.c (.fn 64 [(.tmp 12)])), []⟩, ⟨(some 14), none, (.r (.bin .add (.tmp 7) (.tmp 13))), []⟩, ⟨(some 2), none, (.a (.tmp 14)), []⟩])
  .ret)))
def ce49 : List (Nat × List Nat × List Nat) := []
def ro49 : List RO := [(.mv (.tmp 2))]
theorem ok49 : okFn Tryd.prog 49 15 ce49 = some (rc49, ro49) := by kernel_rfl
/-! internal/strconv.formatBase10 -/
def rc50_0 : RC := (.block 1 (.seq (.run [⟨(some 21), none, (.r (.mv (.tmp 1))), []⟩, ⟨(some 22), none, (.r (.bin .rem (.tmp 21) (.const (.int .u64 100000000)))), []⟩, ⟨(some 23), none, (.r (.cvi .u32 (.tmp 22))), []⟩, ⟨(some 5), none, (.a (.tmp 23)), []⟩])
  (.seq (.run [⟨(some 24), none, (.r (.mv (.tmp 1))), []⟩, ⟨(some 25), none, (.r (.bin .quo (.tmp 24) (.const (.int .u64 100000000)))), []⟩, ⟨(some 1), none, (.a (.tmp 25)), []⟩])
  (.seq (.run [⟨(some 26), none, (.r (.mv (.tmp 5))), []⟩, ⟨(some 27), none, (.r (.bin .quo (.tmp 26) (.const (.int .u32 10000)))), []⟩, ⟨(some 28), none, (.r (.mv (.tmp 5))), []⟩, ⟨(some 29), none, (.r (.bin .rem (.tmp 28) (.const (.int .u32 10000)))), []⟩, ⟨(some 6), none, (.a (.tmp 27)), []⟩, ⟨(some 7), none, (.a (.tmp 29)), []⟩])
  (.seq (.run [⟨(some 30), none, (.r (.mv (.tmp 7))), []⟩, ⟨(some 31), none, (.r (.bin .quo (.tmp 30) (.const (.int .u32 100)))), []⟩, ⟨(some 32), none, (.r (.bin .mul (.tmp 31) (.const (.int .u32 2)))), []⟩, ⟨(some 33), none, (.r (.mv (.tmp 7))), []⟩, ⟨(some 34), none, (.r (.bin .rem (.tmp 33) (.const (.int .u32 100)))), []⟩, ⟨(some 35), none, (.r (.bin .mul (.tmp 34) (.const (.int .u32 2)))), []⟩, ⟨(some 8), none, (.a (.tmp 32)), []⟩, ⟨(some 9), none, (.a (.tmp 35)), []⟩])
  (.seq (.run [⟨(some 36), none, (.r (.mv (.tmp 6))), []⟩, ⟨(some 37), none, (.r (.bin .quo (.tmp 36) (.const (.int .u32 100)))), []⟩, ⟨(some 38), none, (.r (.bin .mul (.tmp 37) (.const (.int .u32 2)))), []⟩, ⟨(some 39), none, (.r (.mv (.tmp 6))), []⟩, ⟨(some 40), none, (.r (.bin .rem (.tmp 39) (.const (.int .u32 100)))), []⟩, ⟨(some 41), none, (.r (.bin .mul (.tmp 40) (.const (.int .u32 2)))), []⟩, ⟨(some 10), none, (.a (.tmp 38)), []⟩, ⟨(some 11), none, (.a (.tmp 41)), []⟩])
  (.seq (.run [⟨(some 42), none, (.r (.mv (.tmp 0))), []⟩, ⟨(some 43), none, (.r (.mv (.tmp 4))), []⟩, ⟨(some 44), none, (.r (.bin .sub (.tmp 43) (.const (.int .i64 1)))), []⟩, ⟨(some 45), none, (.r (.mv (.tmp 0))), []⟩, ⟨(some 46), none, (.r (.mv (.tmp 4))), []⟩, ⟨(some 47), none, (.r (.bin .sub (.tmp 46) (.const (.int .i64 2)))), []⟩, ⟨(some 48), none, (.r (.mv (.tmp 9))), []⟩, ⟨(some 49), none, (.r (.bin .add (.tmp 48) (.const (.int .u32 1)))), []⟩, ⟨(some 50), none, (.r (.ixs (.const (.string ⟨#[48, 48, 48, 49, 48, 50, 48, 51, 48, 52, 48, 53, 48, 54, 48, 55, 48, 56, 48, 57, 49, 48, 49, 49, 49, 50, 49, 51, 49, 52, 49, 53, 49, 54, 49, 55, 49, 56, 49, 57, 50, 48, 50, 49, 50, 50, 50, 51, 50, 52, 50, 53, 50, 54, 50, 55, 50, 56, 50, 57, 51, 48, 51, 49, 51, 50, 51, 51, 51, 52, 51, 53, 51, 54, 51, 55, 51, 56, 51, 57, 52, 48, 52, 49, 52, 50, 52, 51, 52, 52, 52, 53, 52, 54, 52, 55, 52, 56, 52, 57, 53, 48, 53, 49, 53, 50, 53, 51, 53, 52, 53, 53, 53, 54, 53, 55, 53, 56, 53, 57, 54, 48, 54, 49, 54, 50, 54, 51, 54, 52, 54, 53, 54, 54, 54, 55, 54, 56, 54, 57, 55, 48, 55, 49, 55, 50, 55, 51, 55, 52, 55, 53, 55, 54, 55, 55, 55, 56, 55, 57, 56, 48, 56, 49, 56, 50, 56, 51, 56, 52, 56, 53, 56, 54, 56, 55, 56, 56, 56, 57, 57, 48, 57, 49, 57, 50, 57, 51, 57, 52, 57, 53, 57, 54, 57, 55, 57, 56, 57, 57]⟩)) (.tmp 49))), []⟩, ⟨(some 51), none, (.r (.mv (.tmp 9))), []⟩, ⟨(some 52), none, (.r (.ixs (.const (.string ⟨#[48, 48, 48, 49, 48, 50, 48, 51, 48, 52, 48, 53, 48, 54, 48, 55, 48, 56, 48, 57, 49, 48, 49, 49, 49, 50, 49, 51, 49, 52, 49, 53, 49, 54, 49, 55, 49, 56, 49, 57, 50, 48, 50, 49, 50, 50, 50, 51, 50, 52, 50, 53, 50, 54, 50, 55, 50, 56, 50, 57, 51, 48, 51, 49, 51, 50, 51, 51, 51, 52, 51, 53, 51, 54, 51, 55, 51, 56, 51, 57, 52, 48, 52, 49, 52, 50, 52, 51, 52, 52, 52, 53, 52, 54, 52, 55, 52, 56, 52, 57, 53, 48, 53, 49, 53, 50, 53, 51, 53, 52, 53, 53, 53, 54, 53, 55, 53, 56, 53, 57, 54, 48, 54, 49, 54, 50, 54, 51, 54, 52, 54, 53, 54, 54, 54, 55, 54, 56, 54, 57, 55, 48, 55, 49, 55, 50, 55, 51, 55, 52, 55, 53, 55, 54, 55, 55, 55, 56, 55, 57, 56, 48, 56, 49, 56, 50, 56, 51, 56, 52, 56, 53, 56, 54, 56, 55, 56, 56, 56, 57, 57, 48, 57, 49, 57, 50, 57, 51, 57, 52, 57, 53, 57, 54, 57, 55, 57, 56, 57, 57]⟩)) (.tmp 51))), []⟩, ⟨(some 53), none, (.r (.ia 1 (.tmp 42) (.tmp 44))), []⟩, ⟨none, none, (.e (.st 1 (.tmp 53) (.tmp 50))), []⟩, ⟨(some 54), none, (.r (.ia 1 (.tmp 45) (.tmp 47))), []⟩, ⟨none, none, (.e (.st 1 (.tmp 54) (.tmp 52))), []⟩])
  (.seq (.run [⟨(some 55), none, (.r (.mv (.tmp 0))), []⟩, ⟨(some 56), none, (.r (.mv (.tmp 4))), []⟩, ⟨(some 57), none, (.r (.bin .sub (.tmp 56) (.const (.int .i64 3)))), []⟩, ⟨(some 58), none, (.r (.mv (.tmp 0))), []⟩, ⟨(some 59), none, (.r (.mv (.tmp 4))), []⟩, ⟨(some 60), none, (.r (.bin .sub (.tmp 59) (.const (.int .i64 4)))), []⟩, ⟨(some 61), none, (.r (.mv (.tmp 8))), []⟩, ⟨(some 62), none, (.r (.bin .add (.tmp 61) (.const (.int .u32 1)))), []⟩, ⟨(some 63), none, (.r (.ixs (.const (.string ⟨#[48, 48, 48, 49, 48, 50, 48, 51, 48, 52, 48, 53, 48, 54, 48, 55, 48, 56, 48, 57, 49, 48, 49, 49, 49, 50, 49, 51, 49, 52, 49, 53, 49, 54, 49, 55, 49, 56, 49, 57, 50, 48, 50, 49, 50, 50, 50, 51, 50, 52, 50, 53, 50, 54, 50, 55, 50, 56, 50, 57, 51, 48, 51, 49, 51, 50, 51, 51, 51, 52, 51, 53, 51, 54, 51, 55, 51, 56, 51, 57, 52, 48, 52, 49, 52, 50, 52, 51, 52, 52, 52, 53, 52, 54, 52, 55, 52, 56, 52, 57, 53, 48, 53, 49, 53, 50, 53, 51, 53, 52, 53, 53, 53, 54, 53, 55, 53, 56, 53, 57, 54, 48, 54, 49, 54, 50, 54, 51, 54, 52, 54, 53, 54, 54, 54, 55, 54, 56, 54, 57, 55, 48, 55, 49, 55, 50, 55, 51, 55, 52, 55, 53, 55, 54, 55, 55, 55, 56, 55, 57, 56, 48, 56, 49, 56, 50, 56, 51, 56, 52, 56, 53, 56, 54, 56, 55, 56, 56, 56, 57, 57, 48, 57, 49, 57, 50, 57, 51, 57, 52, 57, 53, 57, 54, 57, 55, 57, 56, 57, 57]⟩)) (.tmp 62))), []⟩, ⟨(some 64), none, (.r (.mv (.tmp 8))), []⟩, ⟨(some 65), none, (.r (.ixs (.const (.string ⟨#[48, 48, 48, 49, 48, 50, 48, 51, 48, 52, 48, 53, 48, 54, 48, 55, 48, 56, 48, 57, 49, 48, 49, 49, 49, 50, 49, 51, 49, 52, 49, 53, 49, 54, 49, 55, 49, 56, 49, 57, 50, 48, 50, 49, 50, 50, 50, 51, 50, 52, 50, 53, 50, 54, 50, 55, 50, 56, 50, 57, 51, 48, 51, 49, 51, 50, 51, 51, 51, 52, 51, 53, 51, 54, 51, 55, 51, 56, 51, 57, 52, 48, 52, 49, 52, 50, 52, 51, 52, 52, 52, 53, 52, 54, 52, 55, 52, 56, 52, 57, 53, 48, 53, 49, 53, 50, 53, 51, 53, 52, 53, 53, 53, 54, 53, 55, 53, 56, 53, 57, 54, 48, 54, 49, 54, 50, 54, 51, 54, 52, 54, 53, 54, 54, 54, 55, 54, 56, 54, 57, 55, 48, 55, 49, 55, 50, 55, 51, 55, 52, 55, 53, 55, 54, 55, 55, 55, 56, 55, 57, 56, 48, 56, 49, 56, 50, 56, 51, 56, 52, 56, 53, 56, 54, 56, 55, 56, 56, 56, 57, 57, 48, 57, 49, 57, 50, 57, 51, 57, 52, 57, 53, 57, 54, 57, 55, 57, 56, 57, 57]⟩)) (.tmp 64))), []⟩, ⟨(some 66), none, (.r (.ia 1 (.tmp 55) (.tmp 57))), []⟩, ⟨none, none, (.e (.st 1 (.tmp 66) (.tmp 63))), []⟩, ⟨(some 67), none, (.r (.ia 1 (.tmp 58) (.tmp 60))), []⟩, ⟨none, none, (.e (.st 1 (.tmp 67) (.tmp 65))), []⟩])
  (.seq (.run [⟨(some 68), none, (.r (.mv (.tmp 0))), []⟩, ⟨(some 69), none, (.r (.mv (.tmp 4))), []⟩, ⟨(some 70), none, (.r (.bin .sub (.tmp 69) (.const (.int .i64 5)))), []⟩, ⟨(some 71), none, (.r (.mv (.tmp 0))), []⟩, ⟨(some 72), none, (.r (.mv (.tmp 4))), []⟩, ⟨(some 73), none, (.r (.bin .sub (.tmp 72) (.const (.int .i64 6)))), []⟩, ⟨(some 74), none, (.r (.mv (.tmp 11))), []⟩, ⟨(some 75), none, (.r (.bin .add (.tmp 74) (.const (.int .u32 1)))), []⟩, ⟨(some 76), none, (.r (.ixs (.const (.string ⟨#[48, 48, 48, 49, 48, 50, 48, 51, 48, 52, 48, 53, 48, 54, 48, 55, 48, 56, 48, 57, 49, 48, 49, 49, 49, 50, 49, 51, 49, 52, 49, 53, 49, 54, 49, 55, 49, 56, 49, 57, 50, 48, 50, 49, 50, 50, 50, 51, 50, 52, 50, 53, 50, 54, 50, 55, 50, 56, 50, 57, 51, 48, 51, 49, 51, 50, 51, 51, 51, 52, 51, 53, 51, 54, 51, 55, 51, 56, 51, 57, 52, 48, 52, 49, 52, 50, 52, 51, 52, 52, 52, 53, 52, 54, 52, 55, 52, 56, 52, 57, 53, 48, 53, 49, 53, 50, 53, 51, 53, 52, 53, 53, 53, 54, 53, 55, 53, 56, 53, 57, 54, 48, 54, 49, 54, 50, 54, 51, 54, 52, 54, 53, 54, 54, 54, 55, 54, 56, 54, 57, 55, 48, 55, 49, 55, 50, 55, 51, 55, 52, 55, 53, 55, 54, 55, 55, 55, 56, 55, 57, 56, 48, 56, 49, 56, 50, 56, 51, 56, 52, 56, 53, 56, 54, 56, 55, 56, 56, 56, 57, 57, 48, 57, 49, 57, 50, 57, 51, 57, 52, 57, 53, 57, 54, 57, 55, 57, 56, 57, 57]⟩)) (.tmp 75))), []⟩, ⟨(some 77), none, (.r (.mv (.tmp 11))), []⟩, ⟨(some 78), none, (.r (.ixs (.const (.string ⟨#[48, 48, 48, 49, 48, 50, 48, 51, 48, 52, 48, 53, 48, 54, 48, 55, 48, 56, 48, 57, 49, 48, 49, 49, 49, 50, 49, 51, 49, 52, 49, 53, 49, 54, 49, 55, 49, 56, 49, 57, 50, 48, 50, 49, 50, 50, 50, 51, 50, 52, 50, 53, 50, 54, 50, 55, 50, 56, 50, 57, 51, 48, 51, 49, 51, 50, 51, 51, 51, 52, 51, 53, 51, 54, 51, 55, 51, 56, 51, 57, 52, 48, 52, 49, 52, 50, 52, 51, 52, 52, 52, 53, 52, 54, 52, 55, 52, 56, 52, 57, 53, 48, 53, 49, 53, 50, 53, 51, 53, 52, 53, 53, 53, 54, 53, 55, 53, 56, 53, 57, 54, 48, 54, 49, 54, 50, 54, 51, 54, 52, 54, 53, 54, 54, 54, 55, 54, 56, 54, 57, 55, 48, 55, 49, 55, 50, 55, 51, 55, 52, 55, 53, 55, 54, 55, 55, 55, 56, 55, 57, 56, 48, 56, 49, 56, 50, 56, 51, 56, 52, 56, 53, 56, 54, 56, 55, 56, 56, 56, 57, 57, 48, 57, 49, 57, 50, 57, 51, 57, 52, 57, 53, 57, 54, 57, 55, 57, 56, 57, 57]⟩)) (.tmp 77))), []⟩, ⟨(some 79), none, (.r (.ia 1 (.tmp 68) (.tmp 70))), []⟩, ⟨none, none, (.e (.st 1 (.tmp 79) (.tmp 76))), []⟩, ⟨(some 80), none, (.r (.ia 1 (.tmp 71) (.tmp 73))), []⟩, ⟨none, none, (.e (.st 1 (.tmp 80) (.tmp 78))), []⟩])
  (.seq (.run [⟨(some 81), none, (.r (.mv (.tmp 0))), []⟩, ⟨(some 82), none, (.r (.mv (.tmp 4))), []⟩, ⟨(some 83), none, (.r (.bin .sub (.tmp 82) (.const (.int .i64 7)))), []⟩, ⟨(some 84), none, (.r (.mv (.tmp 0))), []⟩, ⟨(some 85), none, (.r (.mv (.tmp 4))), []⟩, ⟨(some 86), none, (.r (.bin .sub (.tmp 85) (.const (.int .i64 8)))), []⟩, ⟨(some 87), none, (.r (.mv (.tmp 10))), []⟩, ⟨(some 88), none, (.r (.bin .add (.tmp 87) (.const (.int .u32 1)))), []⟩, ⟨(some 89), none, (.r (.ixs (.const (.string ⟨#[48, 48, 48, 49, 48, 50, 48, 51, 48, 52, 48, 53, 48, 54, 48, 55, 48, 56, 48, 57, 49, 48, 49, 49, 49, 50, 49, 51, 49, 52, 49, 53, 49, 54, 49, 55, 49, 56, 49, 57, 50, 48, 50, 49, 50, 50, 50, 51, 50, 52, 50, 53, 50, 54, 50, 55, 50, 56, 50, 57, 51, 48, 51, 49, 51, 50, 51, 51, 51, 52, 51, 53, 51, 54, 51, 55, 51, 56, 51, 57, 52, 48, 52, 49, 52, 50, 52, 51, 52, 52, 52, 53, 52, 54, 52, 55, 52, 56, 52, 57, 53, 48, 53, 49, 53, 50, 53, 51, 53, 52, 53, 53, 53, 54, 53, 55, 53, 56, 53, 57, 54, 48, 54, 49, 54, 50, 54, 51, 54, 52, 54, 53, 54, 54, 54, 55, 54, 56, 54, 57, 55, 48, 55, 49, 55, 50, 55, 51, 55, 52, 55, 53, 55, 54, 55, 55, 55, 56, 55, 57, 56, 48, 56, 49, 56, 50, 56, 51, 56, 52, 56, 53, 56, 54, 56, 55, 56, 56, 56, 57, 57, 48, 57, 49, 57, 50, 57, 51, 57, 52, 57, 53, 57, 54, 57, 55, 57, 56, 57, 57]⟩)) (.tmp 88))), []⟩, ⟨(some 90), none, (.r (.mv (.tmp 10))), []⟩, ⟨(some 91), none, (.r (.ixs (.const (.string ⟨#[48, 48, 48, 49, 48, 50, 48, 51, 48, 52, 48, 53, 48, 54, 48, 55, 48, 56, 48, 57, 49, 48, 49, 49, 49, 50, 49, 51, 49, 52, 49, 53, 49, 54, 49, 55, 49, 56, 49, 57, 50, 48, 50, 49, 50, 50, 50, 51, 50, 52, 50, 53, 50, 54, 50, 55, 50, 56, 50, 57, 51, 48, 51, 49, 51, 50, 51, 51, 51, 52, 51, 53, 51, 54, 51, 55, 51, 56, 51, 57, 52, 48, 52, 49, 52, 50, 52, 51, 52, 52, 52, 53, 52, 54, 52, 55, 52, 56, 52, 57, 53, 48, 53, 49, 53, 50, 53, 51, 53, 52, 53, 53, 53, 54, 53, 55, 53, 56, 53, 57, 54, 48, 54, 49, 54, 50, 54, 51, 54, 52, 54, 53, 54, 54, 54, 55, 54, 56, 54, 57, 55, 48, 55, 49, 55, 50, 55, 51, 55, 52, 55, 53, 55, 54, 55, 55, 55, 56, 55, 57, 56, 48, 56, 49, 56, 50, 56, 51, 56, 52, 56, 53, 56, 54, 56, 55, 56, 56, 56, 57, 57, 48, 57, 49, 57, 50, 57, 51, 57, 52, 57, 53, 57, 54, 57, 55, 57, 56, 57, 57]⟩)) (.tmp 90))), []⟩, ⟨(some 92), none, (.r (.ia 1 (.tmp 81) (.tmp 83))), []⟩, ⟨none, none, (.e (.st 1 (.tmp 92) (.tmp 89))), []⟩, ⟨(some 93), none, (.r (.ia 1 (.tmp 84) (.tmp 86))), []⟩, ⟨none, none, (.e (.st 1 (.tmp 93) (.tmp 91))), []⟩])
  (.run [⟨(some 94), none, (.r (.mv (.tmp 4))), []⟩, ⟨(some 95), none, (.r (.bin .sub (.tmp 94) (.const (.int .i64 8)))), []⟩, ⟨(some 4), none, (.a (.tmp 95)), []⟩])))))))))))
def rc50_1 : RC := (.seq (.seq (.run [⟨(some 19), none, (.r (.mv (.tmp 4))), []⟩, ⟨(some 20), none, (.r (.bin .geq (.tmp 19) (.const (.int .i64 8)))), []⟩])
  (.cond (.tmp 20)
  .skip
  (.exit 0)))
  rc50_0)
def rc50_2 : RC := (.seq (.run [⟨(some 160), none, (.r (.mv (.tmp 4))), []⟩, ⟨(some 161), none, (.r (.bin .gtr (.tmp 160) (.const (.int .i64 0)))), []⟩])
  (.cond (.tmp 161)
  (.run [⟨(some 162), none, (.r (.mv (.tmp 0))), []⟩, ⟨(some 163), none, (.r (.mv (.tmp 12))), []⟩, ⟨(some 164), none, (.r (.bin .add (.const (.int .u32 48)) (.tmp 163))), []⟩, ⟨(some 165), none, (.r (.cvi .u8 (.tmp 164))), []⟩, ⟨(some 166), none, (.r (.ia 1 (.tmp 162) (.const (.int .i64 0)))), []⟩, ⟨none, none, (.e (.st 1 (.tmp 166) (.tmp 165))), []⟩])
  .skip))
def rc50_3 : RC := (.seq (.seq (.run [⟨(some 138), none, (.r (.mv (.tmp 4))), []⟩, ⟨(some 139), none, (.r (.bin .geq (.tmp 138) (.const (.int .i64 2)))), []⟩])
  (.cond (.tmp 139)
  (.seq (.run [⟨(some 140), none, (.r (.mv (.tmp 12))), []⟩, ⟨(some 141), none, (.r (.bin .rem (.tmp 140) (.const (.int .u32 100)))), []⟩, ⟨(some 142), none, (.r (.bin .mul (.tmp 141) (.const (.int .u32 2)))), []⟩, ⟨(some 16), none, (.a (.tmp 142)), []⟩])
  (.seq (.run [⟨(some 143), none, (.r (.mv (.tmp 12))), []⟩, ⟨(some 144), none, (.r (.bin .quo (.tmp 143) (.const (.int .u32 100)))), []⟩, ⟨(some 12), none, (.a (.tmp 144)), []⟩])
  (.seq (.run [⟨(some 145), none, (.r (.mv (.tmp 0))), []⟩, ⟨(some 146), none, (.r (.mv (.tmp 4))), []⟩, ⟨(some 147), none, (.r (.bin .sub (.tmp 146) (.const (.int .i64 1)))), []⟩, ⟨(some 148), none, (.r (.mv (.tmp 0))), []⟩, ⟨(some 149), none, (.r (.mv (.tmp 4))), []⟩, ⟨(some 150), none, (.r (.bin .sub (.tmp 149) (.const (.int .i64 2)))), []⟩, ⟨(some 151), none, (.r (.mv (.tmp 16))), []⟩, ⟨(some 152), none, (.r (.bin .add (.tmp 151) (.const (.int .u32 1)))), []⟩, ⟨(some 153), none, (.r (.ixs (.const (.string ⟨#[48, 48, 48, 49, 48, 50, 48, 51, 48, 52, 48, 53, 48, 54, 48, 55, 48, 56, 48, 57, 49, 48, 49, 49, 49, 50, 49, 51, 49, 52, 49, 53, 49, 54, 49, 55, 49, 56, 49, 57, 50, 48, 50, 49, 50, 50, 50, 51, 50, 52, 50, 53, 50, 54, 50, 55, 50, 56, 50, 57, 51, 48, 51, 49, 51, 50, 51, 51, 51, 52, 51, 53, 51, 54, 51, 55, 51, 56, 51, 57, 52, 48, 52, 49, 52, 50, 52, 51, 52, 52, 52, 53, 52, 54, 52, 55, 52, 56, 52, 57, 53, 48, 53, 49, 53, 50, 53, 51, 53, 52, 53, 53, 53, 54, 53, 55, 53, 56, 53, 57, 54, 48, 54, 49, 54, 50, 54, 51, 54, 52, 54, 53, 54, 54, 54, 55, 54, 56, 54, 57, 55, 48, 55, 49, 55, 50, 55, 51, 55, 52, 55, 53, 55, 54, 55, 55, 55, 56, 55, 57, 56, 48, 56, 49, 56, 50, 56, 51, 56, 52, 56, 53, 56, 54, 56, 55, 56, 56, 56, 57, 57, 48, 57, 49, 57, 50, 57, 51, 57, 52, 57, 53, 57, 54, 57, 55, 57, 56, 57, 57]⟩)) (.tmp 152))), []⟩, ⟨(some 154), none, (.r (.mv (.tmp 16))), []⟩, ⟨(some 155), none, (.r (.ixs (.const (.string ⟨#[48, 48, 48, 49, 48, 50, 48, 51, 48, 52, 48, 53, 48, 54, 48, 55, 48, 56, 48, 57, 49, 48, 49, 49, 49, 50, 49, 51, 49, 52, 49, 53, 49, 54, 49, 55, 49, 56, 49, 57, 50, 48, 50, 49, 50, 50, 50, 51, 50, 52, 50, 53, 50, 54, 50, 55, 50, 56, 50, 57, 51, 48, 51, 49, 51, 50, 51, 51, 51, 52, 51, 53, 51, 54, 51, 55, 51, 56, 51, 57, 52, 48, 52, 49, 52, 50, 52, 51, 52, 52, 52, 53, 52, 54, 52, 55, 52, 56, 52, 57, 53, 48, 53, 49, 53, 50, 53, 51, 53, 52, 53, 53, 53, 54, 53, 55, 53, 56, 53, 57, 54, 48, 54, 49, 54, 50, 54, 51, 54, 52, 54, 53, 54, 54, 54, 55, 54, 56, 54, 57, 55, 48, 55, 49, 55, 50, 55, 51, 55, 52, 55, 53, 55, 54, 55, 55, 55, 56, 55, 57, 56, 48, 56, 49, 56, 50, 56, 51, 56, 52, 56, 53, 56, 54, 56, 55, 56, 56, 56, 57, 57, 48, 57, 49, 57, 50, 57, 51, 57, 52, 57, 53, 57, 54, 57, 55, 57, 56, 57, 57]⟩)) (.tmp 154))), []⟩, ⟨(some 156), none, (.r (.ia 1 (.tmp 145) (.tmp 147))), []⟩, ⟨none, none, (.e (.st 1 (.tmp 156) (.tmp 153))), []⟩, ⟨(some 157), none, (.r (.ia 1 (.tmp 148) (.tmp 150))), []⟩, ⟨none, none, (.e (.st 1 (.tmp 157) (.tmp 155))), []⟩])
  (.run [⟨(some 158), none, (.r (.mv (.tmp 4))), []⟩, ⟨(some 159), none, (.r (.bin .sub (.tmp 158) (.const (.int .i64 2)))), []⟩, ⟨(some 4), none, (.a (.tmp 159)), []⟩]))))
  .skip))
  rc50_2)
def rc50_4 : RC := (.seq (.run [⟨(some 96), none, (.r (.mv (.tmp 1))), []⟩, ⟨(some 97), none, (.r (.cvi .u32 (.tmp 96))), []⟩, ⟨(some 12), none, (.a (.tmp 97)), []⟩])
  (.seq (.seq (.run [⟨(some 98), none, (.r (.mv (.tmp 4))), []⟩, ⟨(some 99), none, (.r (.bin .geq (.tmp 98) (.const (.int .i64 4)))), []⟩])
  (.cond (.tmp 99)
  (.seq (.run [⟨(some 100), none, (.r (.mv (.tmp 12))), []⟩, ⟨(some 101), none, (.r (.bin .rem (.tmp 100) (.const (.int .u32 10000)))), []⟩, ⟨(some 13), none, (.a (.tmp 101)), []⟩])
  (.seq (.run [⟨(some 102), none, (.r (.mv (.tmp 12))), []⟩, ⟨(some 103), none, (.r (.bin .quo (.tmp 102) (.const (.int .u32 10000)))), []⟩, ⟨(some 12), none, (.a (.tmp 103)), []⟩])
  (.seq (.run [⟨(some 104), none, (.r (.mv (.tmp 13))), []⟩, ⟨(some 105), none, (.r (.bin .quo (.tmp 104) (.const (.int .u32 100)))), []⟩, ⟨(some 106), none, (.r (.bin .mul (.tmp 105) (.const (.int .u32 2)))), []⟩, ⟨(some 107), none, (.r (.mv (.tmp 13))), []⟩, ⟨(some 108), none, (.r (.bin .rem (.tmp 107) (.const (.int .u32 100)))), []⟩, ⟨(some 109), none, (.r (.bin .mul (.tmp 108) (.const (.int .u32 2)))), []⟩, ⟨(some 14), none, (.a (.tmp 106)), []⟩, ⟨(some 15), none, (.a (.tmp 109)), []⟩])
  (.seq (.run [⟨(some 110), none, (.r (.mv (.tmp 0))), []⟩, ⟨(some 111), none, (.r (.mv (.tmp 4))), []⟩, ⟨(some 112), none, (.r (.bin .sub (.tmp 111) (.const (.int .i64 1)))), []⟩, ⟨(some 113), none, (.r (.mv (.tmp 0))), []⟩, ⟨(some 114), none, (.r (.mv (.tmp 4))), []⟩, ⟨(some 115), none, (.r (.bin .sub (.tmp 114) (.const (.int .i64 2)))), []⟩, ⟨(some 116), none, (.r (.mv (.tmp 15))), []⟩, ⟨(some 117), none, (.r (.bin .add (.tmp 116) (.const (.int .u32 1)))), []⟩, ⟨(some 118), none, (.r (.ixs (.const (.string ⟨#[48, 48, 48, 49, 48, 50, 48, 51, 48, 52, 48, 53, 48, 54, 48, 55, 48, 56, 48, 57, 49, 48, 49, 49, 49, 50, 49, 51, 49, 52, 49, 53, 49, 54, 49, 55, 49, 56, 49, 57, 50, 48, 50, 49, 50, 50, 50, 51, 50, 52, 50, 53, 50, 54, 50, 55, 50, 56, 50, 57, 51, 48, 51, 49, 51, 50, 51, 51, 51, 52, 51, 53, 51, 54, 51, 55, 51, 56, 51, 57, 52, 48, 52, 49, 52, 50, 52, 51, 52, 52, 52, 53, 52, 54, 52, 55, 52, 56, 52, 57, 53, 48, 53, 49, 53, 50, 53, 51, 53, 52, 53, 53, 53, 54, 53, 55, 53, 56, 53, 57, 54, 48, 54, 49, 54, 50, 54, 51, 54, 52, 54, 53, 54, 54, 54, 55, 54, 56, 54, 57, 55, 48, 55, 49, 55, 50, 55, 51, 55, 52, 55, 53, 55, 54, 55, 55, 55, 56, 55, 57, 56, 48, 56, 49, 56, 50, 56, 51, 56, 52, 56, 53, 56, 54, 56, 55, 56, 56, 56, 57, 57, 48, 57, 49, 57, 50, 57, 51, 57, 52, 57, 53, 57, 54, 57, 55, 57, 56, 57, 57]⟩)) (.tmp 117))), []⟩, ⟨(some 119), none, (.r (.mv (.tmp 15))), []⟩, ⟨(some 120), none, (.r (.ixs (.const (.string ⟨#[48, 48, 48, 49, 48, 50, 48, 51, 48, 52, 48, 53, 48, 54, 48, 55, 48, 56, 48, 57, 49, 48, 49, 49, 49, 50, 49, 51, 49, 52, 49, 53, 49, 54, 49, 55, 49, 56, 49, 57, 50, 48, 50, 49, 50, 50, 50, 51, 50, 52, 50, 53, 50, 54, 50, 55, 50, 56, 50, 57, 51, 48, 51, 49, 51, 50, 51, 51, 51, 52, 51, 53, 51, 54, 51, 55, 51, 56, 51, 57, 52, 48, 52, 49, 52, 50, 52, 51, 52, 52, 52, 53, 52, 54, 52, 55, 52, 56, 52, 57, 53, 48, 53, 49, 53, 50, 53, 51, 53, 52, 53, 53, 53, 54, 53, 55, 53, 56, 53, 57, 54, 48, 54, 49, 54, 50, 54, 51, 54, 52, 54, 53, 54, 54, 54, 55, 54, 56, 54, 57, 55, 48, 55, 49, 55, 50, 55, 51, 55, 52, 55, 53, 55, 54, 55, 55, 55, 56, 55, 57, 56, 48, 56, 49, 56, 50, 56, 51, 56, 52, 56, 53, 56, 54, 56, 55, 56, 56, 56, 57, 57, 48, 57, 49, 57, 50, 57, 51, 57, 52, 57, 53, 57, 54, 57, 55, 57, 56, 57, 57]⟩)) (.tmp 119))), []⟩, ⟨(some 121), none, (.r (.ia 1 (.tmp 110) (.tmp 112))), []⟩, ⟨none, none, (.e (.st 1 (.tmp 121) (.tmp 118))), []⟩, ⟨(some 122), none, (.r (.ia 1 (.tmp 113) (.tmp 115))), []⟩, ⟨none, none, (.e (.st 1 (.tmp 122) (.tmp 120))), []⟩])
  (.seq (.run [⟨(some 123), none, (.r (.mv (.tmp 0))), []⟩, ⟨(some 124), none, (.r (.mv (.tmp 4))), []⟩, ⟨(some 125), none, (.r (.bin .sub (.tmp 124) (.const (.int .i64 3)))), []⟩, ⟨(some 126), none, (.r (.mv (.tmp 0))), []⟩, ⟨(some 127), none, (.r (.mv (.tmp 4))), []⟩, ⟨(some 128), none, (.r (.bin .sub (.tmp 127) (.const (.int .i64 4)))), []⟩, ⟨(some 129), none, (.r (.mv (.tmp 14))), []⟩, ⟨(some 130), none, (.r (.bin .add (.tmp 129) (.const (.int .u32 1)))), []⟩, ⟨(some 131), none, (.r (.ixs (.const (.string ⟨#[48, 48, 48, 49, 48, 50, 48, 51, 48, 52, 48, 53, 48, 54, 48, 55, 48, 56, 48, 57, 49, 48, 49, 49, 49, 50, 49, 51, 49, 52, 49, 53, 49, 54, 49, 55, 49, 56, 49, 57, 50, 48, 50, 49, 50, 50, 50, 51, 50, 52, 50, 53, 50, 54, 50, 55, 50, 56, 50, 57, 51, 48, 51, 49, 51, 50, 51, 51, 51, 52, 51, 53, 51, 54, 51, 55, 51, 56, 51, 57, 52, 48, 52, 49, 52, 50, 52, 51, 52, 52, 52, 53, 52, 54, 52, 55, 52, 56, 52, 57, 53, 48, 53, 49, 53, 50, 53, 51, 53, 52, 53, 53, 53, 54, 53, 55, 53, 56, 53, 57, 54, 48, 54, 49, 54, 50, 54, 51, 54, 52, 54, 53, 54, 54, 54, 55, 54, 56, 54, 57, 55, 48, 55, 49, 55, 50, 55, 51, 55, 52, 55, 53, 55, 54, 55, 55, 55, 56, 55, 57, 56, 48, 56, 49, 56, 50, 56, 51, 56, 52, 56, 53, 56, 54, 56, 55, 56, 56, 56, 57, 57, 48, 57, 49, 57, 50, 57, 51, 57, 52, 57, 53, 57, 54, 57, 55, 57, 56, 57, 57]⟩)) (.tmp 130))), []⟩, ⟨(some 132), none, (.r (.mv (.tmp 14))), []⟩, ⟨(some 133), none, (.r (.ixs (.const (.string ⟨#[48, 48, 48, 49, 48, 50, 48, 51, 48, 52, 48, 53, 48, 54, 48, 55, 48, 56, 48, 57, 49, 48, 49, 49, 49, 50, 49, 51, 49, 52, 49, 53, 49, 54, 49, 55, 49, 56, 49, 57, 50, 48, 50, 49, 50, 50, 50, 51, 50, 52, 50, 53, 50, 54, 50, 55, 50, 56, 50, 57, 51, 48, 51, 49, 51, 50, 51, 51, 51, 52, 51, 53, 51, 54, 51, 55, 51, 56, 51, 57, 52, 48, 52, 49, 52, 50, 52, 51, 52, 52, 52, 53, 52, 54, 52, 55, 52, 56, 52, 57, 53, 48, 53, 49, 53, 50, 53, 51, 53, 52, 53, 53, 53, 54, 53, 55, 53, 56, 53, 57, 54, 48, 54, 49, 54, 50, 54, 51, 54, 52, 54, 53, 54, 54, 54, 55, 54, 56, 54, 57, 55, 48, 55, 49, 55, 50, 55, 51, 55, 52, 55, 53, 55, 54, 55, 55, 55, 56, 55, 57, 56, 48, 56, 49, 56, 50, 56, 51, 56, 52, 56, 53, 56, 54, 56, 55, 56, 56, 56, 57, 57, 48, 57, 49, 57, 50, 57, 51, 57, 52, 57, 53, 57, 54, 57, 55, 57, 56, 57, 57]⟩)) (.tmp 132))), []⟩, ⟨(some 134), none, (.r (.ia 1 (.tmp 123) (.tmp 125))), []⟩, ⟨none, none, (.e (.st 1 (.tmp 134) (.tmp 131))), []⟩, ⟨(some 135), none, (.r (.ia 1 (.tmp 126) (.tmp 128))), []⟩, ⟨none, none, (.e (.st 1 (.tmp 135) (.tmp 133))), []⟩])
  (.run [⟨(some 136), none, (.r (.mv (.tmp 4))), []⟩, ⟨(some 137), none, (.r (.bin .sub (.tmp 136) (.const (.int .i64 4)))), []⟩, ⟨(some 4), none, (.a (.tmp 137)), []⟩]))))))
  .skip))
  rc50_3))
def rc50 : RC := (.seq (.run [⟨(some 17), none, (.r (.mv (.tmp 0))), []⟩, ⟨(some 18), none, (.r (.lenl (.tmp 17))), []⟩, ⟨(some 4), none, (.a (.tmp 18)), []⟩])
  (.seq (.block 0 (.loop rc50_1))
  rc50_4))
def ce50 : List (Nat × List Nat × List Nat) := [(7, [0, 1, 2, 3, 4, 5, 6, 7, 8, 9, 10, 11, 12, 13, 14], [0, 0, 2, 0, 0, 16, 0, 64, 192, 0, 512, 455, 2503, 8191, 16383]), (8, [0, 1, 2, 3, 4, 5, 6, 7, 8, 9, 10, 11, 12, 13, 14], [0, 0, 2, 0, 0, 16, 0, 64, 192, 0, 512, 455, 2503, 8191, 16383]), (9, [0, 1, 2, 3, 4, 5, 6, 7, 8, 9, 10, 11, 12, 13, 14], [0, 0, 2, 0, 0, 16, 0, 64, 192, 0, 512, 455, 2503, 8191, 16383]), (10, [0, 1, 2, 3, 4, 5, 6, 7, 8, 9, 10, 11, 12, 13, 14], [0, 0, 2, 0, 0, 16, 0, 64, 192, 0, 512, 455, 2503, 8191, 16383]), (17, [0, 1, 2, 3, 4, 5, 6, 7, 8, 9, 10, 11, 12, 13, 14], [0, 0, 2, 0, 0, 16, 0, 64, 192, 0, 512, 455, 2503, 8191, 16383]), (18, [0, 1, 2, 3, 4, 5, 6, 7, 8, 9, 10, 11, 12, 13, 14], [0, 0, 2, 0, 0, 16, 0, 64, 192, 0, 512, 455, 2503, 8191, 16383]), (23, [0, 1, 2, 3, 4, 5, 6, 7, 8, 9, 10, 11, 12, 13, 14], [0, 0, 2, 0, 0, 16, 0, 64, 192, 0, 512, 455, 2503, 8191, 16383])]
def ro50 : List RO := []
theorem ok50 : okFn Tryd.prog 50 167 ce50 = some (rc50, ro50) := by kernel_rfl
/-! internal/strconv.formatBits -/
def rc51_0 : RC := (.block 1 (.seq (.run [⟨(some 47), none, (.r (.mv (.tmp 13))), []⟩, ⟨(some 48), none, (.r (.bin .sub (.tmp 47) (.const (.int .i64 1)))), []⟩, ⟨(some 13), none, (.a (.tmp 48)), []⟩])
  (.seq (.run [⟨(some 49), none, (.r (.mv (.tmp 13))), []⟩, ⟨(some 50), none, (.r (.mv (.tmp 1))), []⟩, ⟨(some 51), none, (.r (.mv (.tmp 16))), []⟩, ⟨(some 52), none, (.r (.bin .and (.tmp 50) (.tmp 51))), []⟩, ⟨(some 53), none, (.r (.ixs (.const (.string ⟨#[48, 49, 50, 51, 52, 53, 54, 55, 56, 57, 97, 98, 99, 100, 101, 102, 103, 104, 105, 106, 107, 108, 109, 110, 111, 112, 113, 114, 115, 116, 117, 118, 119, 120, 121, 122]⟩)) (.tmp 52))), []⟩, ⟨(some 54), none, (.r (.iaa 65 1 (.tmp 12) (.tmp 49))), []⟩, ⟨none, none, (.e (.st 1 (.tmp 54) (.tmp 53))), []⟩])
  (.run [⟨(some 55), none, (.r (.mv (.tmp 1))), []⟩, ⟨(some 56), none, (.r (.mv (.tmp 14))), []⟩, ⟨(some 57), none, (.r (.bin .shr (.tmp 55) (.tmp 56))), []⟩, ⟨(some 1), none, (.a (.tmp 57)), []⟩]))))
def rc51_1 : RC := (.seq (.seq (.run [⟨(some 44), none, (.r (.mv (.tmp 1))), []⟩, ⟨(some 45), none, (.r (.mv (.tmp 15))), []⟩, ⟨(some 46), none, (.r (.bin .geq (.tmp 44) (.tmp 45))), []⟩])
  (.cond (.tmp 46)
  .skip
  (.exit 0)))
  rc51_0)
def rc51_2 : RC := (.seq (.run [⟨(some 58), none, (.r (.mv (.tmp 13))), []⟩, ⟨(some 59), none, (.r (.bin .sub (.tmp 58) (.const (.int .i64 1)))), []⟩, ⟨(some 13), none, (.a (.tmp 59)), []⟩])
  (.run [⟨(some 60), none, (.r (.mv (.tmp 13))), []⟩, ⟨(some 61), none, (.r (.mv (.tmp 1))), []⟩, ⟨(some 62), none, (.r (.ixs (.const (.string ⟨#[48, 49, 50, 51, 52, 53, 54, 55, 56, 57, 97, 98, 99, 100, 101, 102, 103, 104, 105, 106, 107, 108, 109, 110, 111, 112, 113, 114, 115, 116, 117, 118, 119, 120, 121, 122]⟩)) (.tmp 61))), []⟩, ⟨(some 63), none, (.r (.iaa 65 1 (.tmp 12) (.tmp 60))), []⟩, ⟨none, none, (.e (.st 1 (.tmp 63) (.tmp 62))), []⟩]))
def rc51_3 : RC := (.block 3 (.seq (.run [⟨(some 69), none, (.r (.mv (.tmp 13))), []⟩, ⟨(some 70), none, (.r (.bin .sub (.tmp 69) (.const (.int .i64 1)))), []⟩, ⟨(some 13), none, (.a (.tmp 70)), []⟩])
  (.seq (.run [⟨(some 71), none, (.r (.mv (.tmp 1))), []⟩, ⟨(some 72), none, (.r (.mv (.tmp 17))), []⟩, ⟨(some 73), none, (.r (.bin .quo (.tmp 71) (.tmp 72))), []⟩, ⟨(some 18), none, (.a (.tmp 73)), []⟩])
  (.seq (.run [⟨(some 74), none, (.r (.mv (.tmp 13))), []⟩, ⟨(some 75), none, (.r (.mv (.tmp 1))), []⟩, ⟨(some 76), none, (.r (.mv (.tmp 18))), []⟩, ⟨(some 77), none, (.r (.mv (.tmp 17))), []⟩, ⟨(some 78), none, (.r (.bin .mul (.tmp 76) (.tmp 77))), []⟩, ⟨(some 79), none, (.r (.bin .sub (.tmp 75) (.tmp 78))), []⟩, ⟨(some 80), none, (.r (.ixs (.const (.string ⟨#[48, 49, 50, 51, 52, 53, 54, 55, 56, 57, 97, 98, 99, 100, 101, 102, 103, 104, 105, 106, 107, 108, 109, 110, 111, 112, 113, 114, 115, 116, 117, 118, 119, 120, 121, 122]⟩)) (.tmp 79))), []⟩, ⟨(some 81), none, (.r (.iaa 65 1 (.tmp 12) (.tmp 74))), []⟩, ⟨none, none, (.e (.st 1 (.tmp 81) (.tmp 80))), []⟩])
  (.run [⟨(some 82), none, (.r (.mv (.tmp 18))), []⟩, ⟨(some 1), none, (.a (.tmp 82)), []⟩])))))
def rc51_4 : RC := (.seq (.seq (.run [⟨(some 66), none, (.r (.mv (.tmp 1))), []⟩, ⟨(some 67), none, (.r (.mv (.tmp 17))), []⟩, ⟨(some 68), none, (.r (.bin .geq (.tmp 66) (.tmp 67))), []⟩])
  (.cond (.tmp 68)
  .skip
  (.exit 2)))
  rc51_3)
def rc51_5 : RC := (.seq (.run [⟨(some 83), none, (.r (.mv (.tmp 13))), []⟩, ⟨(some 84), none, (.r (.bin .sub (.tmp 83) (.const (.int .i64 1)))), []⟩, ⟨(some 13), none, (.a (.tmp 84)), []⟩])
  (.run [⟨(some 85), none, (.r (.mv (.tmp 13))), []⟩, ⟨(some 86), none, (.r (.mv (.tmp 1))), []⟩, ⟨(some 87), none, (.r (.ixs (.const (.string ⟨#[48, 49, 50, 51, 52, 53, 54, 55, 56, 57, 97, 98, 99, 100, 101, 102, 103, 104, 105, 106, 107, 108, 109, 110, 111, 112, 113, 114, 115, 116, 117, 118, 119, 120, 121, 122]⟩)) (.tmp 86))), []⟩, ⟨(some 88), none, (.r (.iaa 65 1 (.tmp 12) (.tmp 85))), []⟩, ⟨none, none, (.e (.st 1 (.tmp 88) (.tmp 87))), []⟩]))
def rc51_6 : RC := (.seq (.run [⟨(some 99), none, (.r (.mv (.tmp 13))), []⟩, ⟨(some 100), none, (.r (.sla 65 1 (.tmp 12) (some (.tmp 99)) none)), []⟩, ⟨(some 101), none, (.r (.b2s (.tmp 100))), []⟩, ⟨(some 11), none, (.a (.tmp 101)), []⟩])
  .ret)
def rc51_7 : RC := (.seq (.seq (.run [⟨(some 94), none, (.r (.mv (.tmp 4))), []⟩])
  (.cond (.tmp 94)
  (.seq (.run [⟨(some 95), none, (.r (.mv (.tmp 0))), []⟩, ⟨(some 96), none, (.r (.mv (.tmp 13))), []⟩, ⟨(some 97), none, (.r (.sla 65 1 (.tmp 12) (some (.tmp 96)) none)), []⟩, ⟨(some 98), none, (.e (.app 5 1 1 (.tmp 95) (.tmp 97))), []⟩, ⟨(some 10), none, (.a (.tmp 98)), []⟩])
  .ret)
  .skip))
  rc51_6)
def rc51_8 : RC := (.seq (.seq (.run [⟨(some 89), none, (.r (.mv (.tmp 3))), []⟩])
  (.cond (.tmp 89)
  (.seq (.run [⟨(some 90), none, (.r (.mv (.tmp 13))), []⟩, ⟨(some 91), none, (.r (.bin .sub (.tmp 90) (.const (.int .i64 1)))), []⟩, ⟨(some 13), none, (.a (.tmp 91)), []⟩])
  (.run [⟨(some 92), none, (.r (.mv (.tmp 13))), []⟩, ⟨(some 93), none, (.r (.iaa 65 1 (.tmp 12) (.tmp 92))), []⟩, ⟨none, none, (.e (.st 1 (.tmp 93) (.const (.int .u8 45)))), []⟩]))
  .skip))
  rc51_7)
def rc51_9 : RC := (.seq (.seq (.run [⟨(some 33), none, (.r (.mv (.tmp 2))), []⟩, ⟨(some 34), none, (.c (.fn 65 [(.tmp 33)])), []⟩])
  (.cond (.tmp 34)
  (.seq (.run [⟨(some 35), none, (.r (.mv (.tmp 2))), []⟩, ⟨(some 36), none, (.r (.cvi .u64 (.tmp 35))), []⟩, ⟨(some 37), none, (.c (.fn 66 [(.tmp 36)])), []⟩, ⟨(some 38), none, (.r (.cvi .u64 (.tmp 37))), []⟩, ⟨(some 14), none, (.a (.tmp 38)), []⟩])
  (.seq (.run [⟨(some 39), none, (.r (.mv (.tmp 2))), []⟩, ⟨(some 40), none, (.r (.cvi .u64 (.tmp 39))), []⟩, ⟨(some 15), none, (.a (.tmp 40)), []⟩])
  (.seq (.run [⟨(some 41), none, (.r (.mv (.tmp 2))), []⟩, ⟨(some 42), none, (.r (.cvi .u64 (.tmp 41))), []⟩, ⟨(some 43), none, (.r (.bin .sub (.tmp 42) (.const (.int .u64 1)))), []⟩, ⟨(some 16), none, (.a (.tmp 43)), []⟩])
  (.seq (.block 0 (.loop rc51_1))
  rc51_2))))
  (.seq (.run [⟨(some 64), none, (.r (.mv (.tmp 2))), []⟩, ⟨(some 65), none, (.r (.cvi .u64 (.tmp 64))), []⟩, ⟨(some 17), none, (.a (.tmp 65)), []⟩])
  (.seq (.block 2 (.loop rc51_4))
  rc51_5))))
  rc51_8)
def rc51_10 : RC := (.seq (.run [⟨(some 12), none, (.e (.al [(.int .u8 0), (.int .u8 0), (.int .u8 0), (.int .u8 0), (.int .u8 0), (.int .u8 0), (.int .u8 0), (.int .u8 0), (.int .u8 0), (.int .u8 0), (.int .u8 0), (.int .u8 0), (.int .u8 0), (.int .u8 0), (.int .u8 0), (.int .u8 0), (.int .u8 0), (.int .u8 0), (.int .u8 0), (.int .u8 0), (.int .u8 0), (.int .u8 0), (.int .u8 0), (.int .u8 0), (.int .u8 0), (.int .u8 0), (.int .u8 0), (.int .u8 0), (.int .u8 0), (.int .u8 0), (.int .u8 0), (.int .u8 0), (.int .u8 0), (.int .u8 0), (.int .u8 0), (.int .u8 0), (.int .u8 0), (.int .u8 0), (.int .u8 0), (.int .u8 0), (.int .u8 0), (.int .u8 0), (.int .u8 0), (.int .u8 0), (.int .u8 0), (.int .u8 0), (.int .u8 0), (.int .u8 0), (.int .u8 0), (.int .u8 0), (.int .u8 0), (.int .u8 0), (.int .u8 0), (.int .u8 0), (.int .u8 0), (.int .u8 0), (.int .u8 0), (.int .u8 0), (.int .u8 0), (.int .u8 0), (.int .u8 0), (.int .u8 0), (.int .u8 0), (.int .u8 0), (.int .u8 0)] 136)), []⟩])
  (.seq (.run [⟨(some 13), none, (.a (.const (.int .i64 65))), []⟩])
  (.seq (.seq (.run [⟨(some 30), none, (.r (.mv (.tmp 3))), []⟩])
  (.cond (.tmp 30)
  (.run [⟨(some 31), none, (.r (.mv (.tmp 1))), []⟩, ⟨(some 32), none, (.r (.neg (.tmp 31))), []⟩, ⟨(some 1), none, (.a (.tmp 32)), []⟩])
  .skip))
  rc51_9)))
def rc51 : RC := (.seq (.run [⟨(some 10), none, (.a (.const (.slice none 0 0))), []⟩, ⟨(some 11), none, (.a (.const (.string ⟨#[]⟩))), []⟩])
  (.seq (.seq (.run [⟨(some 19), none, (.r (.mv (.tmp 2))), []⟩, ⟨(some 20), none, (.r (.bin .lss (.tmp 19) (.const (.int .i64 2)))), []⟩, ⟨(some 21), none, (.r (.mv (.tmp 20))), []⟩, ⟨(some 22), (some (21, false)), (.r (.mv (.tmp 2))), []⟩, ⟨(some 23), (some (21, false)), (.r (.bin .eql (.tmp 22) (.const (.int .i64 10)))), []⟩, ⟨(some 24), none, (.r (.pick (.tmp 21) (.const (.bool true)) (.tmp 23))), []⟩, ⟨(some 25), none, (.r (.mv (.tmp 24))), []⟩, ⟨(some 26), (some (25, false)), (.r (.mv (.tmp 2))), []⟩, ⟨(some 27), (some (25, false)), (.r (.bin .gtr (.tmp 26) (.const (.int .i64 36)))), []⟩, ⟨(some 28), none, (.r (.pick (.tmp 25) (.const (.bool true)) (.tmp 27))), []⟩])
  (.cond (.tmp 28)
  (.run [⟨(some 29), none, (.r (.mki 9 (.const (.string ⟨#[115, 116, 114, 99, 111, 110, 118, 58, 32, 105, 108, 108, 101, 103, 97, 108, 32, 65, 112, 112, 101, 110, 100, 73, 110, 116, 47, 70, 111, 114, 109, 97, 116, 73, 110, 116, 32, 98, 97, 115, 101]⟩)))), []⟩, ⟨none, none, .bad, []⟩])
  .skip))
  rc51_10))
def ce51 : List (Nat × List Nat × List Nat) := []
def ro51 : List RO := [(.mv (.tmp 10)), (.mv (.tmp 11))]
theorem ok51 : okFn Tryd.prog 51 102 ce51 = some (rc51, ro51) := by kernel_rfl
/-! lifeline/token.letter -/

def rc52 : RC := (.seq (.run [⟨(some 2), none, (.a (.const (.bool false))), []⟩])
  (.seq (.run [⟨(some 3), none, (.r (.mv (.tmp 0))), []⟩, ⟨(some 4), none, (.r (.bin .geq (.tmp 3) (.const (.int .u8 97)))), []⟩, ⟨(some 5), none, (.r (.mv (.tmp 4))), []⟩, ⟨(some 6), (some (5, true)), (.r (.mv (.tmp 0))), []⟩, ⟨(some 7), (some (5, true)), (.r (.bin .leq (.tmp 6) (.const (.int .u8 122)))), []⟩, ⟨(some 8), none, (.r (.pick (.tmp 5) (.tmp 7) (.const (.bool false)))), []⟩, ⟨(some 2), none, (.a (.tmp 8)), []⟩])
  .ret))
def ce52 : List (Nat × List Nat × List Nat) := []
def ro52 : List RO := [(.mv (.tmp 2))]
theorem ok52 : okFn Tryd.prog 52 9 ce52 = some (rc52, ro52) := by kernel_rfl
/-! lifeline/token.word -/
def rc53_0 : RC := (.block 1 (.run [⟨(some 30), none, (.r (.mv (.tmp 3))), []⟩, ⟨(some 31), none, (.r (.bin .add (.tmp 30) (.const (.int .i64 1)))), []⟩, ⟨(some 3), none, (.a (.tmp 31)), []⟩]))
def rc53_1 : RC := (.seq (.seq (.run [⟨(some 4), none, (.r (.mv (.tmp 3))), []⟩, ⟨(some 5), none, (.r (.mv (.tmp 0))), []⟩, ⟨(some 6), none, (.r (.lens (.tmp 5))), []⟩, ⟨(some 7), none, (.r (.bin .lss (.tmp 4) (.tmp 6))), []⟩, ⟨(some 8), none, (.r (.mv (.tmp 7))), []⟩, ⟨(some 9), (some (8, true)), (.r (.mv (.tmp 0))), []⟩, ⟨(some 10), (some (8, true)), (.r (.mv (.tmp 3))), []⟩, ⟨(some 11), (some (8, true)), (.r (.ixs (.tmp 9) (.tmp 10))), []⟩, ⟨(some 12), (some (8, true)), (.c (.fn 52 [(.tmp 11)])), []⟩, ⟨(some 13), (some (8, true)), (.r (.mv (.tmp 12))), []⟩, ⟨(some 14), (some (13, false)), (.r (.mv (.tmp 3))), []⟩, ⟨(some 15), (some (13, false)), (.r (.bin .gtr (.tmp 14) (.const (.int .i64 0)))), []⟩, ⟨(some 16), (some (13, false)), (.r (.mv (.tmp 15))), []⟩, ⟨(some 17), (some (16, true)), (.r (.mv (.tmp 0))), []⟩, ⟨(some 18), (some (16, true)), (.r (.mv (.tmp 3))), []⟩, ⟨(some 19), (some (16, true)), (.r (.ixs (.tmp 17) (.tmp 18))), []⟩, ⟨(some 20), (some (16, true)), (.c (.fn 54 [(.tmp 19)])), []⟩, ⟨(some 21), (some (16, true)), (.r (.mv (.tmp 20))), []⟩, ⟨(some 22), (some (21, false)), (.r (.mv (.tmp 0))), []⟩, ⟨(some 23), (some (21, false)), (.r (.mv (.tmp 3))), []⟩, ⟨(some 24), (some (21, false)), (.r (.ixs (.tmp 22) (.tmp 23))), []⟩, ⟨(some 25), (some (21, false)), (.r (.bin .eql (.tmp 24) (.const (.int .u8 45)))), []⟩, ⟨(some 26), (some (16, true)), (.r (.pick (.tmp 21) (.const (.bool true)) (.tmp 25))), []⟩, ⟨(some 27), (some (13, false)), (.r (.pick (.tmp 16) (.tmp 26) (.const (.bool false)))), []⟩, ⟨(some 28), (some (8, true)), (.r (.pick (.tmp 13) (.const (.bool true)) (.tmp 27))), []⟩, ⟨(some 29), none, (.r (.pick (.tmp 8) (.tmp 28) (.const (.bool false)))), []⟩])
  (.cond (.tmp 29)
  .skip
  (.exit 0)))
  rc53_0)
def rc53_2 : RC := (.seq (.run [⟨(some 32), none, (.r (.mv (.tmp 3))), []⟩, ⟨(some 2), none, (.a (.tmp 32)), []⟩])
  .ret)
def rc53 : RC := (.seq (.run [⟨(some 2), none, (.a (.const (.int .i64 0))), []⟩])
  (.seq (.run [⟨(some 3), none, (.a (.const (.int .i64 0))), []⟩])
  (.seq (.block 0 (.loop rc53_1))
  rc53_2)))
def ce53 : List (Nat × List Nat × List Nat) := []
def ro53 : List RO := [(.mv (.tmp 2))]
theorem ok53 : okFn Tryd.prog 53 33 ce53 = some (rc53, ro53) := by kernel_rfl
/-! lifeline/token.digit -/

def rc54 : RC := (.seq (.run [⟨(some 2), none, (.a (.const (.bool false))), []⟩])
  (.seq (.run [⟨(some 3), none, (.r (.mv (.tmp 0))), []⟩, ⟨(some 4), none, (.r (.bin .geq (.tmp 3) (.const (.int .u8 48)))), []⟩, ⟨(some 5), none, (.r (.mv (.tmp 4))), []⟩, ⟨(some 6), (some (5, true)), (.r (.mv (.tmp 0))), []⟩, ⟨(some 7), (some (5, true)), (.r (.bin .leq (.tmp 6) (.const (.int .u8 57)))), []⟩, ⟨(some 8), none, (.r (.pick (.tmp 5) (.tmp 7) (.const (.bool false)))), []⟩, ⟨(some 2), none, (.a (.tmp 8)), []⟩])
  .ret))
def ce54 : List (Nat × List Nat × List Nat) := []
def ro54 : List RO := [(.mv (.tmp 2))]
theorem ok54 : okFn Tryd.prog 54 9 ce54 = some (rc54, ro54) := by kernel_rfl
/-! lifeline/token.number -/
def rc55_0 : RC := (.block 1 (.run [⟨(some 26), none, (.r (.mv (.tmp 8))), []⟩, ⟨(some 27), none, (.r (.bin .add (.tmp 26) (.const (.int .i64 1)))), []⟩, ⟨(some 8), none, (.a (.tmp 27)), []⟩]))
def rc55_1 : RC := (.seq (.seq (.run [⟨(some 14), none, (.r (.mv (.tmp 8))), []⟩, ⟨(some 15), none, (.r (.mv (.tmp 0))), []⟩, ⟨(some 16), none, (.r (.lens (.tmp 15))), []⟩, ⟨(some 17), none, (.r (.bin .lss (.tmp 14) (.tmp 16))), []⟩, ⟨(some 18), none, (.r (.mv (.tmp 17))), []⟩, ⟨(some 19), (some (18, true)), (.r (.mv (.tmp 7))), []⟩, ⟨(some 20), (some (18, true)), (.r (.mv (.tmp 0))), []⟩, ⟨(some 21), (some (18, true)), (.r (.mv (.tmp 8))), []⟩, ⟨(some 22), (some (18, true)), (.r (.ixs (.tmp 20) (.tmp 21))), []⟩, ⟨(some 23), (some (18, true)), (.c (.fn 57 [(.tmp 19), (.tmp 22)])), []⟩, ⟨(some 24), (some (18, true)), (.r (.bin .geq (.tmp 23) (.const (.int .i64 0)))), []⟩, ⟨(some 25), none, (.r (.pick (.tmp 18) (.tmp 24) (.const (.bool false)))), []⟩])
  (.cond (.tmp 25)
  .skip
  (.exit 0)))
  rc55_0)
def rc55_2 : RC := (.seq (.run [⟨(some 56), none, (.r (.mv (.tmp 8))), []⟩, ⟨(some 57), none, (.r (.mv (.tmp 9))), []⟩, ⟨(some 58), none, (.r (.cvi .i64 (.tmp 57))), []⟩, ⟨(some 2), none, (.a (.tmp 56)), []⟩, ⟨(some 3), none, (.a (.tmp 58)), []⟩, ⟨(some 4), none, (.a (.const (.bool true))), []⟩])
  .ret)
def rc55_3 : RC := (.seq (.run [⟨(some 29), none, (.r (.mv (.tmp 0))), []⟩, ⟨(some 30), none, (.r (.mv (.tmp 6))), []⟩, ⟨(some 31), none, (.r (.mv (.tmp 8))), []⟩, ⟨(some 32), none, (.r (.sls (.tmp 29) (some (.tmp 30)) (some (.tmp 31)))), []⟩, ⟨(some 33), none, (.r (.mv (.tmp 5))), []⟩, ⟨(some 34), none, (.c (.fn 68 [(.tmp 32), (.tmp 33), (.const (.int .i64 32))])), []⟩, ⟨(some 28), none, (.r (.mv (.tmp 34))), []⟩, ⟨(some 35), none, (.r (.ext 0 (.tmp 28))), []⟩, ⟨(some 36), none, (.r (.ext 1 (.tmp 28))), []⟩, ⟨(some 9), none, (.a (.tmp 35)), []⟩, ⟨(some 10), none, (.a (.tmp 36)), []⟩])
  (.seq (.seq (.run [⟨(some 37), none, (.r (.mv (.tmp 10))), []⟩, ⟨(some 38), none, (.r (.eq true (.iface []) (.tmp 37) (.const .nilIface))), []⟩, ⟨(some 39), none, (.r (.mv (.tmp 38))), []⟩, ⟨(some 40), (some (39, false)), (.r (.mv (.tmp 9))), []⟩, ⟨(some 41), (some (39, false)), (.r (.mv (.tmp 5))), []⟩, ⟨(some 43), (some (39, false)), (.r (.mv (.tmp 0))), []⟩, ⟨(some 44), (some (39, false)), (.r (.mv (.tmp 6))), []⟩, ⟨(some 45), (some (39, false)), (.r (.mv (.tmp 8))), []⟩, ⟨(some 46), (some (39, false)), (.r (.sls (.tmp 43) (some (.tmp 44)) (some (.tmp 45)))), []⟩, ⟨(some 42), (some (39, false)), (.c (.fn 27 [(.tmp 40), (.tmp 41)])), []⟩, ⟨(some 47), (some (39, false)), (.r (.bin .neq (.tmp 42) (.tmp 46))), []⟩, ⟨(some 48), none, (.r (.pick (.tmp 39) (.const (.bool true)) (.tmp 47))), []⟩, ⟨(some 49), none, (.r (.mv (.tmp 48))), []⟩, ⟨(some 50), (some (49, false)), (.r (.mv (.tmp 0))), []⟩, ⟨(some 51), (some (49, false)), (.r (.mv (.tmp 8))), []⟩, ⟨(some 52), (some (49, false)), (.r (.sls (.tmp 50) (some (.tmp 51)) none)), []⟩, ⟨(some 53), (some (49, false)), (.c (.fn 53 [(.tmp 52)])), []⟩, ⟨(some 54), (some (49, false)), (.r (.bin .gtr (.tmp 53) (.const (.int .i64 0)))), []⟩, ⟨(some 55), none, (.r (.pick (.tmp 49) (.const (.bool true)) (.tmp 54))), []⟩])
  (.cond (.tmp 55)
  (.seq (.run [⟨(some 2), none, (.a (.const (.int .i64 0))), []⟩, ⟨(some 3), none, (.a (.const (.int .i64 0))), []⟩, ⟨(some 4), none, (.a (.const (.bool false))), []⟩])
  .ret)
  .skip))
  rc55_2))
def rc55_4 : RC := (.seq (.run [⟨(some 13), none, (.r (.mv (.tmp 6))), []⟩, ⟨(some 8), none, (.a (.tmp 13)), []⟩])
  (.seq (.block 0 (.loop rc55_1))
  rc55_3))
def rc55 : RC := (.seq (.run [⟨(some 2), none, (.a (.const (.int .i64 0))), []⟩, ⟨(some 3), none, (.a (.const (.int .i64 0))), []⟩, ⟨(some 4), none, (.a (.const (.bool false))), []⟩])
  (.seq (.run [⟨(some 5), none, (.a (.const (.int .i64 10))), []⟩, ⟨(some 6), none, (.a (.const (.int .i64 0))), []⟩, ⟨(some 7), none, (.a (.const (.string ⟨#[48, 49, 50, 51, 52, 53, 54, 55, 56, 57]⟩))), []⟩])
  (.seq (.seq (.run [⟨(some 11), none, (.r (.mv (.tmp 0))), []⟩, ⟨(some 12), none, (.c (.fn 67 [(.tmp 11), (.const (.string ⟨#[48, 120]⟩))])), []⟩])
  (.cond (.tmp 12)
  (.run [⟨(some 5), none, (.a (.const (.int .i64 16))), []⟩, ⟨(some 6), none, (.a (.const (.int .i64 2))), []⟩, ⟨(some 7), none, (.a (.const (.string ⟨#[48, 49, 50, 51, 52, 53, 54, 55, 56, 57, 97, 98, 99, 100, 101, 102]⟩))), []⟩])
  .skip))
  rc55_4)))
def ce55 : List (Nat × List Nat × List Nat) := [(8, [0, 1, 2, 3, 4, 6, 7, 8, 9, 5, 10, 11, 12, 13, 14, 15, 16, 17, 18], [0, 1, 3, 7, 7, 31, 7, 7, 7, 455, 1023, 2047, 4095, 8191, 8191, 32767, 65535, 131071, 262143])]
def ro55 : List RO := [(.mv (.tmp 2)), (.mv (.tmp 3)), (.mv (.tmp 4))]
theorem ok55 : okFn Tryd.prog 55 59 ce55 = some (rc55, ro55) := by kernel_rfl
/-! lifeline/token.quoted -/
def rc56_0 : RC := (.seq (.run [⟨(some 48), none, (.r (.mv (.tmp 0))), []⟩, ⟨(some 49), none, (.r (.mv (.tmp 6))), []⟩, ⟨(some 50), none, (.r (.ixs (.tmp 48) (.tmp 49))), []⟩])
  (.block 3 (.seq (.run [⟨(some 56), none, (.r (.bin .eql (.tmp 50) (.const (.int .u8 114)))), []⟩, ⟨(some 55), none, (.a (.tmp 56)), []⟩])
  (.cond (.tmp 55)
  (.run [⟨(some 57), none, (.c (.fn 35 [(.tmp 5), (.const (.int .u8 13))])), []⟩])
  (.seq (.run [⟨(some 59), none, (.r (.bin .eql (.tmp 50) (.const (.int .u8 110)))), []⟩, ⟨(some 58), none, (.a (.tmp 59)), []⟩])
  (.cond (.tmp 58)
  (.run [⟨(some 60), none, (.c (.fn 35 [(.tmp 5), (.const (.int .u8 10))])), []⟩])
  (.run [⟨(some 51), none, (.r (.mv (.tmp 0))), []⟩, ⟨(some 52), none, (.r (.mv (.tmp 6))), []⟩, ⟨(some 53), none, (.r (.ixs (.tmp 51) (.tmp 52))), []⟩, ⟨(some 54), none, (.c (.fn 35 [(.tmp 5), (.tmp 53)])), []⟩])))))))
def rc56_1 : RC := (.seq (.run [⟨(some 35), none, (.r (.mv (.tmp 6))), []⟩, ⟨(some 36), none, (.r (.bin .add (.tmp 35) (.const (.int .i64 1)))), []⟩, ⟨(some 6), none, (.a (.tmp 36)), []⟩])
  (.seq (.seq (.run [⟨(some 37), none, (.r (.mv (.tmp 6))), []⟩, ⟨(some 38), none, (.r (.mv (.tmp 0))), []⟩, ⟨(some 39), none, (.r (.lens (.tmp 38))), []⟩, ⟨(some 40), none, (.r (.bin .eql (.tmp 37) (.tmp 39))), []⟩, ⟨(some 41), none, (.r (.mv (.tmp 40))), []⟩, ⟨(some 42), (some (41, false)), (.r (.mv (.tmp 0))), []⟩, ⟨(some 43), (some (41, false)), (.r (.mv (.tmp 6))), []⟩, ⟨(some 44), (some (41, false)), (.r (.ixs (.tmp 42) (.tmp 43))), []⟩, ⟨(some 45), (some (41, false)), (.c (.fn 57 [(.const (.string ⟨#[92, 34, 114, 110]⟩)), (.tmp 44)])), []⟩, ⟨(some 46), (some (41, false)), (.r (.bin .lss (.tmp 45) (.const (.int .i64 0)))), []⟩, ⟨(some 47), none, (.r (.pick (.tmp 41) (.const (.bool true)) (.tmp 46))), []⟩])
  (.cond (.tmp 47)
  (.seq (.run [⟨(some 2), none, (.a (.const (.int .i64 0))), []⟩, ⟨(some 3), none, (.a (.const (.string ⟨#[]⟩))), []⟩, ⟨(some 4), none, (.a (.const (.bool false))), []⟩])
  .ret)
  .skip))
  rc56_0))
def rc56_2 : RC := (.seq (.block 1 (.seq (.run [⟨(some 14), none, (.r (.mv (.tmp 0))), []⟩, ⟨(some 15), none, (.r (.mv (.tmp 6))), []⟩, ⟨(some 16), none, (.r (.ixs (.tmp 14) (.tmp 15))), []⟩, ⟨(some 7), none, (.a (.tmp 16)), []⟩])
  (.seq (.block 2 (.seq (.run [⟨(some 18), none, (.r (.mv (.tmp 7))), []⟩, ⟨(some 19), none, (.r (.bin .eql (.tmp 18) (.const (.int .u8 34)))), []⟩, ⟨(some 17), none, (.a (.tmp 19)), []⟩])
  (.cond (.tmp 17)
  (.seq (.run [⟨(some 20), none, (.r (.mv (.tmp 6))), []⟩, ⟨(some 21), none, (.r (.bin .add (.tmp 20) (.const (.int .i64 1)))), []⟩, ⟨(some 22), none, (.c (.fn 28 [(.tmp 5)])), []⟩, ⟨(some 2), none, (.a (.tmp 21)), []⟩, ⟨(some 3), none, (.a (.tmp 22)), []⟩, ⟨(some 4), none, (.a (.const (.bool true))), []⟩])
  .ret)
  (.seq (.run [⟨(some 24), none, (.r (.mv (.tmp 7))), []⟩, ⟨(some 25), none, (.r (.bin .lss (.tmp 24) (.const (.int .u8 32)))), []⟩, ⟨(some 26), none, (.r (.mv (.tmp 25))), []⟩, ⟨(some 27), (some (26, false)), (.r (.mv (.tmp 7))), []⟩, ⟨(some 28), (some (26, false)), (.r (.bin .gtr (.tmp 27) (.const (.int .u8 126)))), []⟩, ⟨(some 29), none, (.r (.pick (.tmp 26) (.const (.bool true)) (.tmp 28))), []⟩, ⟨(some 23), none, (.a (.tmp 29)), []⟩])
  (.cond (.tmp 23)
  (.seq (.run [⟨(some 2), none, (.a (.const (.int .i64 0))), []⟩, ⟨(some 3), none, (.a (.const (.string ⟨#[]⟩))), []⟩, ⟨(some 4), none, (.a (.const (.bool false))), []⟩])
  .ret)
  (.seq (.run [⟨(some 31), none, (.r (.mv (.tmp 7))), []⟩, ⟨(some 32), none, (.r (.bin .neq (.tmp 31) (.const (.int .u8 92)))), []⟩, ⟨(some 30), none, (.a (.tmp 32)), []⟩])
  (.cond (.tmp 30)
  (.seq (.run [⟨(some 33), none, (.r (.mv (.tmp 7))), []⟩, ⟨(some 34), none, (.c (.fn 35 [(.tmp 5), (.tmp 33)])), []⟩])
  (.exit 1))
  .skip)))))))
  rc56_1)))
  (.run [⟨(some 12), none, (.r (.mv (.tmp 6))), []⟩, ⟨(some 13), none, (.r (.bin .add (.tmp 12) (.const (.int .i64 1)))), []⟩, ⟨(some 6), none, (.a (.tmp 13)), []⟩]))
def rc56_3 : RC := (.seq (.seq (.run [⟨(some 8), none, (.r (.mv (.tmp 6))), []⟩, ⟨(some 9), none, (.r (.mv (.tmp 0))), []⟩, ⟨(some 10), none, (.r (.lens (.tmp 9))), []⟩, ⟨(some 11), none, (.r (.bin .lss (.tmp 8) (.tmp 10))), []⟩])
  (.cond (.tmp 11)
  .skip
  (.exit 0)))
  rc56_2)
def rc56_4 : RC := (.seq (.run [⟨(some 2), none, (.a (.const (.int .i64 0))), []⟩, ⟨(some 3), none, (.a (.const (.string ⟨#[]⟩))), []⟩, ⟨(some 4), none, (.a (.const (.bool false))), []⟩])
  .ret)
def rc56 : RC := (.seq (.run [⟨(some 2), none, (.a (.const (.int .i64 0))), []⟩, ⟨(some 3), none, (.a (.const (.string ⟨#[]⟩))), []⟩, ⟨(some 4), none, (.a (.const (.bool false))), []⟩])
  (.seq (.run [⟨(some 5), none, (.e (.al [(.pointer none), (.slice none 0 0)] 61)), []⟩])
  (.seq (.seq (.run [⟨(some 6), none, (.a (.const (.int .i64 1))), []⟩])
  (.block 0 (.loop rc56_3)))
  rc56_4)))
def ce56 : List (Nat × List Nat × List Nat) := []
def ro56 : List RO := [(.mv (.tmp 2)), (.mv (.tmp 3)), (.mv (.tmp 4))]
theorem ok56 : okFn Tryd.prog 56 61 ce56 = some (rc56, ro56) := by kernel_rfl
/-! strings.IndexByte -/

def rc57 : RC := (.seq (.run [⟨(some 4), none, (.a (.const (.int .i64 0))), []⟩])
  (.seq (.run [⟨(some 5), none, (.r (.mv (.tmp 0))), []⟩, ⟨(some 6), none, (.r (.mv (.tmp 1))), []⟩, ⟨(some 7), none, (.c (.fn 69 [(.tmp 5), (.tmp 6)])), []⟩, ⟨(some 4), none, (.a (.tmp 7)), []⟩])
  .ret))
def ce57 : List (Nat × List Nat × List Nat) := []
def ro57 : List RO := [(.mv (.tmp 4))]
theorem ok57 : okFn Tryd.prog 57 8 ce57 = some (rc57, ro57) := by kernel_rfl
/-! (*lifeline/manifest.parser).fail -/

def rc58 : RC := (.seq (.run [⟨(some 4), none, (.r (.mv (.tmp 0))), []⟩, ⟨(some 5), none, (.r (.nck (.tmp 4))), []⟩, ⟨(some 6), none, (.r (.fa 2 (.tmp 5))), []⟩, ⟨(some 7), none, (.r (.ld (.tmp 6))), []⟩, ⟨(some 8), none, (.r (.eq false (.iface []) (.tmp 7) (.const .nilIface))), []⟩])
  (.cond (.tmp 8)
  (.run [⟨(some 9), none, (.r (.mv (.tmp 0))), []⟩, ⟨(some 10), none, (.r (.mv (.tmp 1))), []⟩, ⟨(some 11), none, (.r (.mv (.tmp 0))), []⟩, ⟨(some 12), none, (.r (.nck (.tmp 11))), []⟩, ⟨(some 13), none, (.r (.fa 0 (.tmp 12))), []⟩, ⟨(some 14), none, (.r (.ld (.tmp 13))), []⟩, ⟨(some 15), none, (.r (.mv (.tmp 0))), []⟩, ⟨(some 16), none, (.r (.nck (.tmp 15))), []⟩, ⟨(some 17), none, (.r (.fa 1 (.tmp 16))), []⟩, ⟨(some 18), none, (.r (.ld (.tmp 17))), []⟩, ⟨(some 19), none, (.r (.ia 4 (.tmp 14) (.tmp 18))), []⟩, ⟨(some 20), none, (.r (.fa 3 (.tmp 19))), []⟩, ⟨(some 21), none, (.r (.ld (.tmp 20))), []⟩, ⟨(some 22), none, (.c (.fn 40 [(.tmp 10), (.tmp 21)])), []⟩, ⟨(some 23), none, (.r (.nck (.tmp 9))), []⟩, ⟨(some 24), none, (.r (.fa 2 (.tmp 23))), []⟩, ⟨none, none, (.e (.st 1 (.tmp 24) (.tmp 22))), []⟩])
  .skip))
def ce58 : List (Nat × List Nat × List Nat) := [(1, [0, 1, 2, 3, 4, 5, 6, 7, 8, 9, 10, 11, 12, 13, 14, 15, 16], [0, 0, 0, 4, 12, 28, 0, 64, 192, 448, 1020, 2044, 4092, 8190, 16383, 32767, 65535])]
def ro58 : List RO := []
theorem ok58 : okFn Tryd.prog 58 25 ce58 = some (rc58, ro58) := by kernel_rfl
/-! internal/strconv.log10Pow2 -/

def rc62 : RC := (.seq (.run [⟨(some 2), none, (.a (.const (.int .i64 0))), []⟩])
  (.seq (.run [⟨(some 3), none, (.r (.mv (.tmp 0))), []⟩, ⟨(some 4), none, (.r (.bin .mul (.tmp 3) (.const (.int .i64 78913)))), []⟩, ⟨(some 5), none, (.r (.bin .shr (.tmp 4) (.const (.int .u64 18)))), []⟩, ⟨(some 2), none, (.a (.tmp 5)), []⟩])
  .ret))
def ce62 : List (Nat × List Nat × List Nat) := []
def ro62 : List RO := [(.mv (.tmp 2))]
theorem ok62 : okFn Tryd.prog 62 6 ce62 = some (rc62, ro62) := by kernel_rfl
/-! math/bits.Len64 -/
def rc63_0 : RC := (.seq (.run [⟨(some 19), none, (.r (.mv (.tmp 2))), []⟩, ⟨(some 20), none, (.r (.mv (.tmp 0))), []⟩, ⟨(some 21), none, (.r (.cvi .u8 (.tmp 20))), []⟩, ⟨(some 22), none, (.r (.ixs (.const (.string ⟨#[0, 1, 2, 2, 3, 3, 3, 3, 4, 4, 4, 4, 4, 4, 4, 4, 5, 5, 5, 5, 5, 5, 5, 5, 5, 5, 5, 5, 5, 5, 5, 5, 6, 6, 6, 6, 6, 6, 6, 6, 6, 6, 6, 6, 6, 6, 6, 6, 6, 6, 6, 6, 6, 6, 6, 6, 6, 6, 6, 6, 6, 6, 6, 6, 7, 7, 7, 7, 7, 7, 7, 7, 7, 7, 7, 7, 7, 7, 7, 7, 7, 7, 7, 7, 7, 7, 7, 7, 7, 7, 7, 7, 7, 7, 7, 7, 7, 7, 7, 7, 7, 7, 7, 7, 7, 7, 7, 7, 7, 7, 7, 7, 7, 7, 7, 7, 7, 7, 7, 7, 7, 7, 7, 7, 7, 7, 7, 7, 8, 8, 8, 8, 8, 8, 8, 8, 8, 8, 8, 8, 8, 8, 8, 8, 8, 8, 8, 8, 8, 8, 8, 8, 8, 8, 8, 8, 8, 8, 8, 8, 8, 8, 8, 8, 8, 8, 8, 8, 8, 8, 8, 8, 8, 8, 8, 8, 8, 8, 8, 8, 8, 8, 8, 8, 8, 8, 8, 8, 8, 8, 8, 8, 8, 8, 8, 8, 8, 8, 8, 8, 8, 8, 8, 8, 8, 8, 8, 8, 8, 8, 8, 8, 8, 8, 8, 8, 8, 8, 8, 8, 8, 8, 8, 8, 8, 8, 8, 8, 8, 8, 8, 8, 8, 8, 8, 8, 8, 8, 8, 8, 8, 8, 8, 8, 8, 8, 8, 8, 8, 8, 8, 8, 8, 8, 8, 8]⟩)) (.tmp 21))), []⟩, ⟨(some 23), none, (.r (.cvi .i64 (.tmp 22))), []⟩, ⟨(some 24), none, (.r (.bin .add (.tmp 19) (.tmp 23))), []⟩, ⟨(some 2), none, (.a (.tmp 24)), []⟩])
  .ret)
def rc63_1 : RC := (.seq (.seq (.run [⟨(some 13), none, (.r (.mv (.tmp 0))), []⟩, ⟨(some 14), none, (.r (.bin .geq (.tmp 13) (.const (.int .u64 256)))), []⟩])
  (.cond (.tmp 14)
  (.seq (.run [⟨(some 15), none, (.r (.mv (.tmp 0))), []⟩, ⟨(some 16), none, (.r (.bin .shr (.tmp 15) (.const (.int .u64 8)))), []⟩, ⟨(some 0), none, (.a (.tmp 16)), []⟩])
  (.run [⟨(some 17), none, (.r (.mv (.tmp 2))), []⟩, ⟨(some 18), none, (.r (.bin .add (.tmp 17) (.const (.int .i64 8)))), []⟩, ⟨(some 2), none, (.a (.tmp 18)), []⟩]))
  .skip))
  rc63_0)
def rc63_2 : RC := (.seq (.seq (.run [⟨(some 7), none, (.r (.mv (.tmp 0))), []⟩, ⟨(some 8), none, (.r (.bin .geq (.tmp 7) (.const (.int .u64 65536)))), []⟩])
  (.cond (.tmp 8)
  (.seq (.run [⟨(some 9), none, (.r (.mv (.tmp 0))), []⟩, ⟨(some 10), none, (.r (.bin .shr (.tmp 9) (.const (.int .u64 16)))), []⟩, ⟨(some 0), none, (.a (.tmp 10)), []⟩])
  (.run [⟨(some 11), none, (.r (.mv (.tmp 2))), []⟩, ⟨(some 12), none, (.r (.bin .add (.tmp 11) (.const (.int .i64 16)))), []⟩, ⟨(some 2), none, (.a (.tmp 12)), []⟩]))
  .skip))
  rc63_1)
def rc63 : RC := (.seq (.run [⟨(some 2), none, (.a (.const (.int .i64 0))), []⟩])
  (.seq (.seq (.run [⟨(some 3), none, (.r (.mv (.tmp 0))), []⟩, ⟨(some 4), none, (.r (.bin .geq (.tmp 3) (.const (.int .u64 4294967296)))), []⟩])
  (.cond (.tmp 4)
  (.seq (.run [⟨(some 5), none, (.r (.mv (.tmp 0))), []⟩, ⟨(some 6), none, (.r (.bin .shr (.tmp 5) (.const (.int .u64 32)))), []⟩, ⟨(some 0), none, (.a (.tmp 6)), []⟩])
  (.run [⟨(some 2), none, (.a (.const (.int .i64 32))), []⟩]))
  .skip))
  rc63_2))
def ce63 : List (Nat × List Nat × List Nat) := []
def ro63 : List RO := [(.mv (.tmp 2))]
theorem ok63 : okFn Tryd.prog 63 25 ce63 = some (rc63, ro63) := by kernel_rfl
/-! internal/strconv.bool2[int] -/
def rc64_0 : RC := (.seq (.run [⟨(some 2), none, (.a (.const (.int .i64 0))), []⟩])
  .ret)
def rc64 : RC := (.seq (.run [⟨(some 2), none, (.a (.const (.int .i64 0))), []⟩])
  (.seq (.seq (.run [⟨(some 3), none, (.r (.mv (.tmp 0))), []⟩])
  (.cond (.tmp 3)
  (.seq (.run [⟨(some 2), none, (.a (.const (.int .i64 1))), []⟩])
  .ret)
  .skip))
  rc64_0))
def ce64 : List (Nat × List Nat × List Nat) := []
def ro64 : List RO := [(.mv (.tmp 2))]
theorem ok64 : okFn Tryd.prog 64 4 ce64 = some (rc64, ro64) := by kernel_rfl
/-! internal/strconv.isPowerOfTwo -/

def rc65 : RC := (.seq (.run [⟨(some 2), none, (.a (.const (.bool false))), []⟩])
  (.seq (.run [⟨(some 3), none, (.r (.mv (.tmp 0))), []⟩, ⟨(some 4), none, (.r (.mv (.tmp 0))), []⟩, ⟨(some 5), none, (.r (.bin .sub (.tmp 4) (.const (.int .i64 1)))), []⟩, ⟨(some 6), none, (.r (.bin .and (.tmp 3) (.tmp 5))), []⟩, ⟨(some 7), none, (.r (.bin .eql (.tmp 6) (.const (.int .i64 0)))), []⟩, ⟨(some 2), none, (.a (.tmp 7)), []⟩])
  .ret))
def ce65 : List (Nat × List Nat × List Nat) := []
def ro65 : List RO := [(.mv (.tmp 2))]
theorem ok65 : okFn Tryd.prog 65 8 ce65 = some (rc65, ro65) := by kernel_rfl
/-! math/bits.TrailingZeros -/
def rc66_0 : RC := (.seq (.run [⟨(some 6), none, (.r (.mv (.tmp 0))), []⟩, ⟨(some 7), none, (.c (.fn 71 [(.tmp 6)])), []⟩, ⟨(some 2), none, (.a (.tmp 7)), []⟩])
  .ret)
def rc66 : RC := (.seq (.run [⟨(some 2), none, (.a (.const (.int .i64 0))), []⟩])
  (.seq (.cond (.const (.bool false))
  (.seq (.run [⟨(some 3), none, (.r (.mv (.tmp 0))), []⟩, ⟨(some 4), none, (.r (.cvi .u32 (.tmp 3))), []⟩, ⟨(some 5), none, (.c (.fn 70 [(.tmp 4)])), []⟩, ⟨(some 2), none, (.a (.tmp 5)), []⟩])
  .ret)
  .skip)
  rc66_0))
def ce66 : List (Nat × List Nat × List Nat) := []
def ro66 : List RO := [(.mv (.tmp 2))]
theorem ok66 : okFn Tryd.prog 66 8 ce66 = some (rc66, ro66) := by kernel_rfl
/-! strings.HasPrefix -/

def rc67 : RC := (.seq (.run [⟨(some 4), none, (.a (.const (.bool false))), []⟩])
  (.seq (.run [⟨(some 5), none, (.r (.mv (.tmp 0))), []⟩, ⟨(some 6), none, (.r (.mv (.tmp 1))), []⟩, ⟨(some 7), none, (.c (.fn 72 [(.tmp 5), (.tmp 6)])), []⟩, ⟨(some 4), none, (.a (.tmp 7)), []⟩])
  .ret))
def ce67 : List (Nat × List Nat × List Nat) := []
def ro67 : List RO := [(.mv (.tmp 4))]
theorem ok67 : okFn Tryd.prog 67 8 ce67 = some (rc67, ro67) := by kernel_rfl
/-! strconv.ParseUint -/
def rc68_0 : RC := (.seq (.run [⟨(some 25), none, (.r (.mv (.tmp 8))), []⟩, ⟨(some 6), none, (.a (.tmp 25)), []⟩, ⟨(some 7), none, (.a (.const .nilIface)), []⟩])
  .ret)
def rc68 : RC := (.seq (.run [⟨(some 6), none, (.a (.const (.int .u64 0))), []⟩, ⟨(some 7), none, (.a (.const .nilIface)), []⟩])
  (.seq (.run [⟨(some 11), none, (.r (.mv (.tmp 0))), []⟩, ⟨(some 12), none, (.r (.mv (.tmp 1))), []⟩, ⟨(some 13), none, (.r (.mv (.tmp 2))), []⟩, ⟨(some 14), none, (.c (.fn 73 [(.tmp 11), (.tmp 12), (.tmp 13)])), []⟩, ⟨(some 10), none, (.r (.mv (.tmp 14))), []⟩, ⟨(some 15), none, (.r (.ext 0 (.tmp 10))), []⟩, ⟨(some 16), none, (.r (.ext 1 (.tmp 10))), []⟩, ⟨(some 8), none, (.a (.tmp 15)), []⟩, ⟨(some 9), none, (.a (.tmp 16)), []⟩])
  (.seq (.seq (.run [⟨(some 17), none, (.r (.mv (.tmp 9))), []⟩, ⟨(some 18), none, (.r (.eq true (.iface []) (.tmp 17) (.const .nilIface))), []⟩])
  (.cond (.tmp 18)
  (.seq (.run [⟨(some 19), none, (.r (.mv (.tmp 8))), []⟩, ⟨(some 20), none, (.r (.mv (.tmp 0))), []⟩, ⟨(some 21), none, (.r (.mv (.tmp 1))), []⟩, ⟨(some 22), none, (.r (.mv (.tmp 2))), []⟩, ⟨(some 23), none, (.r (.mv (.tmp 9))), []⟩, ⟨(some 24), none, (.c (.fn 74 [(.const (.string ⟨#[80, 97, 114, 115, 101, 85, 105, 110, 116]⟩)), (.tmp 20), (.tmp 21), (.tmp 22), (.tmp 23)])), []⟩, ⟨(some 6), none, (.a (.tmp 19)), []⟩, ⟨(some 7), none, (.a (.tmp 24)), []⟩])
  .ret)
  .skip))
  rc68_0)))
def ce68 : List (Nat × List Nat × List Nat) := []
def ro68 : List RO := [(.mv (.tmp 6)), (.mv (.tmp 7))]
theorem ok68 : okFn Tryd.prog 68 26 ce68 = some (rc68, ro68) := by kernel_rfl
/-! internal/stringslite.IndexByte -/

def rc69 : RC := (.seq (.run [⟨(some 4), none, (.a (.const (.int .i64 0))), []⟩])
  (.seq (.run [⟨(some 5), none, (.r (.mv (.tmp 0))), []⟩, ⟨(some 6), none, (.r (.mv (.tmp 1))), []⟩, ⟨(some 7), none, (.c (.fn 75 [(.tmp 5), (.tmp 6)])), []⟩, ⟨(some 4), none, (.a (.tmp 7)), []⟩])
  .ret))
def ce69 : List (Nat × List Nat × List Nat) := []
def ro69 : List RO := [(.mv (.tmp 4))]
theorem ok69 : okFn Tryd.prog 69 8 ce69 = some (rc69, ro69) := by kernel_rfl
/-! math/bits.TrailingZeros32 -/
def rc70_0 : RC := (.seq (.run [⟨(some 5), none, (.r (.mv (.tmp 0))), []⟩, ⟨(some 6), none, (.r (.mv (.tmp 0))), []⟩, ⟨(some 7), none, (.r (.neg (.tmp 6))), []⟩, ⟨(some 8), none, (.r (.bin .and (.tmp 5) (.tmp 7))), []⟩, ⟨(some 9), none, (.r (.bin .mul (.tmp 8) (.const (.int .u32 125613361)))), []⟩, ⟨(some 10), none, (.r (.bin .shr (.tmp 9) (.const (.int .u64 27)))), []⟩, ⟨(some 11), none, (.r (.iaa 32 1 (.global 2) (.tmp 10))), []⟩, ⟨(some 12), none, (.r (.ld (.tmp 11))), []⟩, ⟨(some 13), none, (.r (.cvi .i64 (.tmp 12))), []⟩, ⟨(some 2), none, (.a (.tmp 13)), []⟩])
  .ret)
def rc70 : RC := (.seq (.run [⟨(some 2), none, (.a (.const (.int .i64 0))), []⟩])
  (.seq (.seq (.run [⟨(some 3), none, (.r (.mv (.tmp 0))), []⟩, ⟨(some 4), none, (.r (.bin .eql (.tmp 3) (.const (.int .u32 0)))), []⟩])
  (.cond (.tmp 4)
  (.seq (.run [⟨(some 2), none, (.a (.const (.int .i64 32))), []⟩])
  .ret)
  .skip))
  rc70_0))
def ce70 : List (Nat × List Nat × List Nat) := []
def ro70 : List RO := [(.mv (.tmp 2))]
theorem ok70 : okFn Tryd.prog 70 14 ce70 = some (rc70, ro70) := by kernel_rfl
/-! math/bits.TrailingZeros64 -/
def rc71_0 : RC := (.seq (.run [⟨(some 5), none, (.r (.mv (.tmp 0))), []⟩, ⟨(some 6), none, (.r (.mv (.tmp 0))), []⟩, ⟨(some 7), none, (.r (.neg (.tmp 6))), []⟩, ⟨(some 8), none, (.r (.bin .and (.tmp 5) (.tmp 7))), []⟩, ⟨(some 9), none, (.r (.bin .mul (.tmp 8) (.const (.int .u64 285870213051353865)))), []⟩, ⟨(some 10), none, (.r (.bin .shr (.tmp 9) (.const (.int .u64 58)))), []⟩, ⟨(some 11), none, (.r (.iaa 64 1 (.global 3) (.tmp 10))), []⟩, ⟨(some 12), none, (.r (.ld (.tmp 11))), []⟩, ⟨(some 13), none, (.r (.cvi .i64 (.tmp 12))), []⟩, ⟨(some 2), none, (.a (.tmp 13)), []⟩])
  .ret)
def rc71 : RC := (.seq (.run [⟨(some 2), none, (.a (.const (.int .i64 0))), []⟩])
  (.seq (.seq (.run [⟨(some 3), none, (.r (.mv (.tmp 0))), []⟩, ⟨(some 4), none, (.r (.bin .eql (.tmp 3) (.const (.int .u64 0)))), []⟩])
  (.cond (.tmp 4)
  (.seq (.run [⟨(some 2), none, (.a (.const (.int .i64 64))), []⟩])
  .ret)
  .skip))
  rc71_0))
def ce71 : List (Nat × List Nat × List Nat) := []
def ro71 : List RO := [(.mv (.tmp 2))]
theorem ok71 : okFn Tryd.prog 71 14 ce71 = some (rc71, ro71) := by kernel_rfl
/-! internal/stringslite.HasPrefix -/

def rc72 : RC := (.seq (.run [⟨(some 4), none, (.a (.const (.bool false))), []⟩])
  (.seq (.run [⟨(some 5), none, (.r (.mv (.tmp 0))), []⟩, ⟨(some 6), none, (.r (.lens (.tmp 5))), []⟩, ⟨(some 7), none, (.r (.mv (.tmp 1))), []⟩, ⟨(some 8), none, (.r (.lens (.tmp 7))), []⟩, ⟨(some 9), none, (.r (.bin .geq (.tmp 6) (.tmp 8))), []⟩, ⟨(some 10), none, (.r (.mv (.tmp 9))), []⟩, ⟨(some 11), (some (10, true)), (.r (.mv (.tmp 0))), []⟩, ⟨(some 12), (some (10, true)), (.r (.mv (.tmp 1))), []⟩, ⟨(some 13), (some (10, true)), (.r (.lens (.tmp 12))), []⟩, ⟨(some 14), (some (10, true)), (.r (.sls (.tmp 11) none (some (.tmp 13)))), []⟩, ⟨(some 15), (some (10, true)), (.r (.mv (.tmp 1))), []⟩, ⟨(some 16), (some (10, true)), (.r (.bin .eql (.tmp 14) (.tmp 15))), []⟩, ⟨(some 17), none, (.r (.pick (.tmp 10) (.tmp 16) (.const (.bool false)))), []⟩, ⟨(some 4), none, (.a (.tmp 17)), []⟩])
  .ret))
def ce72 : List (Nat × List Nat × List Nat) := []
def ro72 : List RO := [(.mv (.tmp 4))]
theorem ok72 : okFn Tryd.prog 72 18 ce72 = some (rc72, ro72) := by kernel_rfl
/-! internal/strconv.ParseUint -/
def rc73_0 : RC := (.seq (.run [⟨(some 144), none, (.r (.mv (.tmp 13))), []⟩, ⟨(some 145), none, (.r (.mv (.tmp 1))), []⟩, ⟨(some 146), none, (.r (.cvi .u64 (.tmp 145))), []⟩, ⟨(some 147), none, (.r (.bin .mul (.tmp 144) (.tmp 146))), []⟩, ⟨(some 13), none, (.a (.tmp 147)), []⟩])
  (.seq (.run [⟨(some 148), none, (.r (.mv (.tmp 13))), []⟩, ⟨(some 149), none, (.r (.mv (.tmp 16))), []⟩, ⟨(some 150), none, (.r (.cvi .u64 (.tmp 149))), []⟩, ⟨(some 151), none, (.r (.bin .add (.tmp 148) (.tmp 150))), []⟩, ⟨(some 17), none, (.a (.tmp 151)), []⟩])
  (.seq (.seq (.run [⟨(some 152), none, (.r (.mv (.tmp 17))), []⟩, ⟨(some 153), none, (.r (.mv (.tmp 13))), []⟩, ⟨(some 154), none, (.r (.bin .lss (.tmp 152) (.tmp 153))), []⟩, ⟨(some 155), none, (.r (.mv (.tmp 154))), []⟩, ⟨(some 156), (some (155, false)), (.r (.mv (.tmp 17))), []⟩, ⟨(some 157), (some (155, false)), (.r (.mv (.tmp 11))), []⟩, ⟨(some 158), (some (155, false)), (.r (.bin .gtr (.tmp 156) (.tmp 157))), []⟩, ⟨(some 159), none, (.r (.pick (.tmp 155) (.const (.bool true)) (.tmp 158))), []⟩])
  (.cond (.tmp 159)
  (.seq (.run [⟨(some 160), none, (.r (.mv (.tmp 11))), []⟩, ⟨(some 161), none, (.r (.mki 147 (.const (.int .i64 1)))), []⟩, ⟨(some 6), none, (.a (.tmp 160)), []⟩, ⟨(some 7), none, (.a (.tmp 161)), []⟩])
  .ret)
  .skip))
  (.run [⟨(some 162), none, (.r (.mv (.tmp 17))), []⟩, ⟨(some 13), none, (.a (.tmp 162)), []⟩]))))
def rc73_1 : RC := (.seq (.seq (.run [⟨(some 139), none, (.r (.mv (.tmp 13))), []⟩, ⟨(some 140), none, (.r (.mv (.tmp 10))), []⟩, ⟨(some 141), none, (.r (.bin .geq (.tmp 139) (.tmp 140))), []⟩])
  (.cond (.tmp 141)
  (.seq (.run [⟨(some 142), none, (.r (.mv (.tmp 11))), []⟩, ⟨(some 143), none, (.r (.mki 147 (.const (.int .i64 1)))), []⟩, ⟨(some 6), none, (.a (.tmp 142)), []⟩, ⟨(some 7), none, (.a (.tmp 143)), []⟩])
  .ret)
  .skip))
  rc73_0)
def rc73_2 : RC := (.seq (.seq (.run [⟨(some 134), none, (.r (.mv (.tmp 16))), []⟩, ⟨(some 135), none, (.r (.mv (.tmp 1))), []⟩, ⟨(some 136), none, (.r (.cvi .u8 (.tmp 135))), []⟩, ⟨(some 137), none, (.r (.bin .geq (.tmp 134) (.tmp 136))), []⟩])
  (.cond (.tmp 137)
  (.seq (.run [⟨(some 138), none, (.r (.mki 147 (.const (.int .i64 2)))), []⟩, ⟨(some 6), none, (.a (.const (.int .u64 0))), []⟩, ⟨(some 7), none, (.a (.tmp 138)), []⟩])
  .ret)
  .skip))
  rc73_1)
def rc73_3 : RC := (.seq (.block 4 (.seq (.run [⟨(some 103), none, (.r (.ia 1 (.tmp 99) (.tmp 101))), []⟩, ⟨(some 104), none, (.r (.ld (.tmp 103))), []⟩, ⟨(some 15), none, (.a (.tmp 104)), []⟩])
  (.seq (.run [⟨(some 16), none, (.a (.const (.int .u8 0))), []⟩])
  (.seq (.block 5 (.seq (.run [⟨(some 107), none, (.r (.mv (.tmp 15))), []⟩, ⟨(some 108), none, (.r (.bin .eql (.tmp 107) (.const (.int .u8 95)))), []⟩, ⟨(some 109), none, (.r (.mv (.tmp 108))), []⟩, ⟨(some 110), (some (109, true)), (.r (.mv (.tmp 8))), []⟩, ⟨(some 111), none, (.r (.pick (.tmp 109) (.tmp 110) (.const (.bool false)))), []⟩, ⟨(some 106), none, (.a (.tmp 111)), []⟩])
  (.cond (.tmp 106)
  (.seq (.run [⟨(some 12), none, (.a (.const (.bool true))), []⟩])
  (.exit 4))
  (.seq (.run [⟨(some 113), none, (.r (.mv (.tmp 15))), []⟩, ⟨(some 114), none, (.r (.bin .leq (.const (.int .u8 48)) (.tmp 113))), []⟩, ⟨(some 115), none, (.r (.mv (.tmp 114))), []⟩, ⟨(some 116), (some (115, true)), (.r (.mv (.tmp 15))), []⟩, ⟨(some 117), (some (115, true)), (.r (.bin .leq (.tmp 116) (.const (.int .u8 57)))), []⟩, ⟨(some 118), none, (.r (.pick (.tmp 115) (.tmp 117) (.const (.bool false)))), []⟩, ⟨(some 112), none, (.a (.tmp 118)), []⟩])
  (.cond (.tmp 112)
  (.run [⟨(some 119), none, (.r (.mv (.tmp 15))), []⟩, ⟨(some 120), none, (.r (.bin .sub (.tmp 119) (.const (.int .u8 48)))), []⟩, ⟨(some 16), none, (.a (.tmp 120)), []⟩])
  (.seq (.run [⟨(some 122), none, (.r (.mv (.tmp 15))), []⟩, ⟨(some 123), none, (.c (.fn 76 [(.tmp 122)])), []⟩, ⟨(some 124), none, (.r (.bin .leq (.const (.int .u8 97)) (.tmp 123))), []⟩, ⟨(some 125), none, (.r (.mv (.tmp 124))), []⟩, ⟨(some 126), (some (125, true)), (.r (.mv (.tmp 15))), []⟩, ⟨(some 127), (some (125, true)), (.c (.fn 76 [(.tmp 126)])), []⟩, ⟨(some 128), (some (125, true)), (.r (.bin .leq (.tmp 127) (.const (.int .u8 122)))), []⟩, ⟨(some 129), none, (.r (.pick (.tmp 125) (.tmp 128) (.const (.bool false)))), []⟩, ⟨(some 121), none, (.a (.tmp 129)), []⟩])
  (.cond (.tmp 121)
  (.run [⟨(some 130), none, (.r (.mv (.tmp 15))), []⟩, ⟨(some 131), none, (.c (.fn 76 [(.tmp 130)])), []⟩, ⟨(some 132), none, (.r (.bin .sub (.tmp 131) (.const (.int .u8 97)))), []⟩, ⟨(some 133), none, (.r (.bin .add (.tmp 132) (.const (.int .u8 10)))), []⟩, ⟨(some 16), none, (.a (.tmp 133)), []⟩])
  (.seq (.run [⟨(some 105), none, (.r (.mki 147 (.const (.int .i64 2)))), []⟩, ⟨(some 6), none, (.a (.const (.int .u64 0))), []⟩, ⟨(some 7), none, (.a (.tmp 105)), []⟩])
  .ret))))))))
  rc73_2))))
  (.run [⟨(some 163), none, (.r (.bin .add (.tmp 101) (.const (.int .i64 1)))), []⟩, ⟨(some 101), none, (.r (.mv (.tmp 163))), []⟩]))
def rc73_4 : RC := (.seq (.run [⟨(some 102), none, (.r (.bin .lss (.tmp 101) (.tmp 100))), []⟩])
  (.seq (.cond (.tmp 102)
  .skip
  (.exit 3))
  rc73_3))
def rc73_5 : RC := (.seq (.run [⟨(some 171), none, (.r (.mv (.tmp 13))), []⟩, ⟨(some 6), none, (.a (.tmp 171)), []⟩, ⟨(some 7), none, (.a (.const .nilIface)), []⟩])
  .ret)
def rc73_6 : RC := (.seq (.seq (.run [⟨(some 164), none, (.r (.mv (.tmp 12))), []⟩, ⟨(some 165), none, (.r (.mv (.tmp 164))), []⟩, ⟨(some 166), (some (165, true)), (.r (.mv (.tmp 9))), []⟩, ⟨(some 167), (some (165, true)), (.c (.fn 77 [(.tmp 166)])), []⟩, ⟨(some 168), (some (165, true)), (.r (.not (.tmp 167))), []⟩, ⟨(some 169), none, (.r (.pick (.tmp 165) (.tmp 168) (.const (.bool false)))), []⟩])
  (.cond (.tmp 169)
  (.seq (.run [⟨(some 170), none, (.r (.mki 147 (.const (.int .i64 2)))), []⟩, ⟨(some 6), none, (.a (.const (.int .u64 0))), []⟩, ⟨(some 7), none, (.a (.tmp 170)), []⟩])
  .ret)
  .skip))
  rc73_5)
def rc73_7 : RC := (.seq (.run [⟨(some 94), none, (.r (.mv (.tmp 2))), []⟩, ⟨(some 95), none, (.r (.cvi .u64 (.tmp 94))), []⟩, ⟨(some 96), none, (.r (.bin .shl (.const (.int .u64 1)) (.tmp 95))), []⟩, ⟨(some 97), none, (.r (.bin .sub (.tmp 96) (.const (.int .u64 1)))), []⟩, ⟨(some 11), none, (.a (.tmp 97)), []⟩])
  (.seq (.run [⟨(some 12), none, (.a (.const (.bool false))), []⟩])
  (.seq (.run [⟨(some 13), none, (.a (.const (.int .u64 0))), []⟩])
  (.seq (.seq (.run [⟨(some 98), none, (.r (.mv (.tmp 0))), []⟩, ⟨(some 99), none, (.e (.s2b 5 (.tmp 98))), []⟩, ⟨(some 100), none, (.r (.lenl (.tmp 99))), []⟩, ⟨(some 101), none, (.r (.mv (.const (.int .i64 0)))), []⟩])
  (.block 3 (.loop rc73_4)))
  rc73_6))))
def rc73_8 : RC := (.seq (.run [⟨(some 10), none, (.a (.const (.int .u64 0))), []⟩])
  (.seq (.seq (.run [⟨(some 85), none, (.r (.mv (.tmp 1))), []⟩])
  (.block 2 (.seq (.run [⟨(some 91), none, (.r (.bin .eql (.tmp 85) (.const (.int .i64 10)))), []⟩, ⟨(some 90), none, (.a (.tmp 91)), []⟩])
  (.cond (.tmp 90)
  (.run [⟨(some 10), none, (.a (.const (.int .u64 1844674407370955162))), []⟩])
  (.seq (.run [⟨(some 93), none, (.r (.bin .eql (.tmp 85) (.const (.int .i64 16)))), []⟩, ⟨(some 92), none, (.a (.tmp 93)), []⟩])
  (.cond (.tmp 92)
  (.run [⟨(some 10), none, (.a (.const (.int .u64 1152921504606846976))), []⟩])
  (.run [⟨(some 86), none, (.r (.mv (.tmp 1))), []⟩, ⟨(some 87), none, (.r (.cvi .u64 (.tmp 86))), []⟩, ⟨(some 88), none, (.r (.bin .quo (.const (.int .u64 18446744073709551615)) (.tmp 87))), []⟩, ⟨(some 89), none, (.r (.bin .add (.tmp 88) (.const (.int .u64 1)))), []⟩, ⟨(some 10), none, (.a (.tmp 89)), []⟩])))))))
  rc73_7))
def rc73_9 : RC := (.seq (.seq (.run [⟨(some 76), none, (.r (.mv (.tmp 2))), []⟩, ⟨(some 77), none, (.r (.bin .eql (.tmp 76) (.const (.int .i64 0)))), []⟩])
  (.cond (.tmp 77)
  (.run [⟨(some 2), none, (.a (.const (.int .i64 64))), []⟩])
  (.seq (.run [⟨(some 78), none, (.r (.mv (.tmp 2))), []⟩, ⟨(some 79), none, (.r (.bin .lss (.tmp 78) (.const (.int .i64 0)))), []⟩, ⟨(some 80), none, (.r (.mv (.tmp 79))), []⟩, ⟨(some 81), (some (80, false)), (.r (.mv (.tmp 2))), []⟩, ⟨(some 82), (some (80, false)), (.r (.bin .gtr (.tmp 81) (.const (.int .i64 64)))), []⟩, ⟨(some 83), none, (.r (.pick (.tmp 80) (.const (.bool true)) (.tmp 82))), []⟩])
  (.cond (.tmp 83)
  (.seq (.run [⟨(some 84), none, (.r (.mki 147 (.const (.int .i64 4)))), []⟩, ⟨(some 6), none, (.a (.const (.int .u64 0))), []⟩, ⟨(some 7), none, (.a (.tmp 84)), []⟩])
  .ret)
  .skip))))
  rc73_8)
def rc73_10 : RC := (.seq (.run [⟨(some 21), none, (.r (.mv (.tmp 1))), []⟩, ⟨(some 22), none, (.r (.bin .eql (.tmp 21) (.const (.int .i64 0)))), []⟩, ⟨(some 8), none, (.a (.tmp 22)), []⟩])
  (.seq (.run [⟨(some 23), none, (.r (.mv (.tmp 0))), []⟩, ⟨(some 9), none, (.a (.tmp 23)), []⟩])
  (.seq (.block 0 (.seq (.run [⟨(some 26), none, (.r (.mv (.tmp 1))), []⟩, ⟨(some 27), none, (.r (.bin .leq (.const (.int .i64 2)) (.tmp 26))), []⟩, ⟨(some 28), none, (.r (.mv (.tmp 27))), []⟩, ⟨(some 29), (some (28, true)), (.r (.mv (.tmp 1))), []⟩, ⟨(some 30), (some (28, true)), (.r (.bin .leq (.tmp 29) (.const (.int .i64 36)))), []⟩, ⟨(some 31), none, (.r (.pick (.tmp 28) (.tmp 30) (.const (.bool false)))), []⟩, ⟨(some 25), none, (.a (.tmp 31)), []⟩])
  (.cond (.tmp 25)
  .skip
  (.seq (.run [⟨(some 33), none, (.r (.mv (.tmp 1))), []⟩, ⟨(some 34), none, (.r (.bin .eql (.tmp 33) (.const (.int .i64 0)))), []⟩, ⟨(some 32), none, (.a (.tmp 34)), []⟩])
  (.cond (.tmp 32)
  (.seq (.run [⟨(some 1), none, (.a (.const (.int .i64 10))), []⟩])
  (.seq (.run [⟨(some 35), none, (.r (.mv (.tmp 0))), []⟩, ⟨(some 36), none, (.r (.ixs (.tmp 35) (.const (.int .i64 0)))), []⟩, ⟨(some 37), none, (.r (.bin .eql (.tmp 36) (.const (.int .u8 48)))), []⟩])
  (.cond (.tmp 37)
  (.block 1 (.seq (.run [⟨(some 41), none, (.r (.mv (.tmp 0))), []⟩, ⟨(some 42), none, (.r (.lens (.tmp 41))), []⟩, ⟨(some 43), none, (.r (.bin .geq (.tmp 42) (.const (.int .i64 3)))), []⟩, ⟨(some 44), none, (.r (.mv (.tmp 43))), []⟩, ⟨(some 45), (some (44, true)), (.r (.mv (.tmp 0))), []⟩, ⟨(some 46), (some (44, true)), (.r (.ixs (.tmp 45) (.const (.int .i64 1)))), []⟩, ⟨(some 47), (some (44, true)), (.c (.fn 76 [(.tmp 46)])), []⟩, ⟨(some 48), (some (44, true)), (.r (.bin .eql (.tmp 47) (.const (.int .u8 98)))), []⟩, ⟨(some 49), none, (.r (.pick (.tmp 44) (.tmp 48) (.const (.bool false)))), []⟩, ⟨(some 40), none, (.a (.tmp 49)), []⟩])
  (.cond (.tmp 40)
  (.seq (.run [⟨(some 1), none, (.a (.const (.int .i64 2))), []⟩])
  (.run [⟨(some 50), none, (.r (.mv (.tmp 0))), []⟩, ⟨(some 51), none, (.r (.sls (.tmp 50) (some (.const (.int .i64 2))) none)), []⟩, ⟨(some 0), none, (.a (.tmp 51)), []⟩]))
  (.seq (.run [⟨(some 53), none, (.r (.mv (.tmp 0))), []⟩, ⟨(some 54), none, (.r (.lens (.tmp 53))), []⟩, ⟨(some 55), none, (.r (.bin .geq (.tmp 54) (.const (.int .i64 3)))), []⟩, ⟨(some 56), none, (.r (.mv (.tmp 55))), []⟩, ⟨(some 57), (some (56, true)), (.r (.mv (.tmp 0))), []⟩, ⟨(some 58), (some (56, true)), (.r (.ixs (.tmp 57) (.const (.int .i64 1)))), []⟩, ⟨(some 59), (some (56, true)), (.c (.fn 76 [(.tmp 58)])), []⟩, ⟨(some 60), (some (56, true)), (.r (.bin .eql (.tmp 59) (.const (.int .u8 111)))), []⟩, ⟨(some 61), none, (.r (.pick (.tmp 56) (.tmp 60) (.const (.bool false)))), []⟩, ⟨(some 52), none, (.a (.tmp 61)), []⟩])
  (.cond (.tmp 52)
  (.seq (.run [⟨(some 1), none, (.a (.const (.int .i64 8))), []⟩])
  (.run [⟨(some 62), none, (.r (.mv (.tmp 0))), []⟩, ⟨(some 63), none, (.r (.sls (.tmp 62) (some (.const (.int .i64 2))) none)), []⟩, ⟨(some 0), none, (.a (.tmp 63)), []⟩]))
  (.seq (.run [⟨(some 65), none, (.r (.mv (.tmp 0))), []⟩, ⟨(some 66), none, (.r (.lens (.tmp 65))), []⟩, ⟨(some 67), none, (.r (.bin .geq (.tmp 66) (.const (.int .i64 3)))), []⟩, ⟨(some 68), none, (.r (.mv (.tmp 67))), []⟩, ⟨(some 69), (some (68, true)), (.r (.mv (.tmp 0))), []⟩, ⟨(some 70), (some (68, true)), (.r (.ixs (.tmp 69) (.const (.int .i64 1)))), []⟩, ⟨(some 71), (some (68, true)), (.c (.fn 76 [(.tmp 70)])), []⟩, ⟨(some 72), (some (68, true)), (.r (.bin .eql (.tmp 71) (.const (.int .u8 120)))), []⟩, ⟨(some 73), none, (.r (.pick (.tmp 68) (.tmp 72) (.const (.bool false)))), []⟩, ⟨(some 64), none, (.a (.tmp 73)), []⟩])
  (.cond (.tmp 64)
  (.seq (.run [⟨(some 1), none, (.a (.const (.int .i64 16))), []⟩])
  (.run [⟨(some 74), none, (.r (.mv (.tmp 0))), []⟩, ⟨(some 75), none, (.r (.sls (.tmp 74) (some (.const (.int .i64 2))) none)), []⟩, ⟨(some 0), none, (.a (.tmp 75)), []⟩]))
  (.seq (.run [⟨(some 1), none, (.a (.const (.int .i64 8))), []⟩])
  (.run [⟨(some 38), none, (.r (.mv (.tmp 0))), []⟩, ⟨(some 39), none, (.r (.sls (.tmp 38) (some (.const (.int .i64 1))) none)), []⟩, ⟨(some 0), none, (.a (.tmp 39)), []⟩])))))))))
  .skip)))
  (.seq (.run [⟨(some 24), none, (.r (.mki 147 (.const (.int .i64 3)))), []⟩, ⟨(some 6), none, (.a (.const (.int .u64 0))), []⟩, ⟨(some 7), none, (.a (.tmp 24)), []⟩])
  .ret))))))
  rc73_9)))
def rc73 : RC := (.seq (.run [⟨(some 6), none, (.a (.const (.int .u64 0))), []⟩, ⟨(some 7), none, (.a (.const .nilIface)), []⟩])
  (.seq (.seq (.run [⟨(some 18), none, (.r (.mv (.tmp 0))), []⟩, ⟨(some 19), none, (.r (.bin .eql (.tmp 18) (.const (.string ⟨#[]⟩)))), []⟩])
  (.cond (.tmp 19)
  (.seq (.run [⟨(some 20), none, (.r (.mki 147 (.const (.int .i64 2)))), []⟩, ⟨(some 6), none, (.a (.const (.int .u64 0))), []⟩, ⟨(some 7), none, (.a (.tmp 20)), []⟩])
  .ret)
  .skip))
  rc73_10))
def ce73 : List (Nat × List Nat × List Nat) := []
def ro73 : List RO := [(.mv (.tmp 6)), (.mv (.tmp 7))]
theorem ok73 : okFn Tryd.prog 73 172 ce73 = some (rc73, ro73) := by kernel_rfl
/-! strconv.toError -/
def rc74_0 : RC := (.seq (.run [⟨(some 42), none, (.r (.mv (.tmp 4))), []⟩, ⟨(some 10), none, (.a (.tmp 42)), []⟩])
  .ret)
def rc74 : RC := (.seq (.run [⟨(some 10), none, (.a (.const .nilIface)), []⟩])
  (.seq (.seq (.run [⟨(some 11), none, (.r (.mv (.tmp 4))), []⟩])
  (.block 0 (.seq (.run [⟨(some 13), none, (.r (.mki 147 (.const (.int .i64 2)))), []⟩, ⟨(some 14), none, (.r (.ieq false [2, 3, 5, 6, 12, 21, 33, 34, 40, 44, 68, 76, 94, 101, 138, 147, 166, 168, 169, 181] (.tmp 11) (.tmp 13))), []⟩, ⟨(some 12), none, (.a (.tmp 14)), []⟩])
  (.cond (.tmp 12)
  (.seq (.run [⟨(some 15), none, (.r (.mv (.tmp 0))), []⟩, ⟨(some 16), none, (.r (.mv (.tmp 1))), []⟩, ⟨(some 17), none, (.c (.fn 78 [(.tmp 15), (.tmp 16)])), []⟩, ⟨(some 18), none, (.r (.mki 149 (.tmp 17))), []⟩, ⟨(some 10), none, (.a (.tmp 18)), []⟩])
  .ret)
  (.seq (.run [⟨(some 20), none, (.r (.mki 147 (.const (.int .i64 1)))), []⟩, ⟨(some 21), none, (.r (.ieq false [2, 3, 5, 6, 12, 21, 33, 34, 40, 44, 68, 76, 94, 101, 138, 147, 166, 168, 169, 181] (.tmp 11) (.tmp 20))), []⟩, ⟨(some 19), none, (.a (.tmp 21)), []⟩])
  (.cond (.tmp 19)
  (.seq (.run [⟨(some 22), none, (.r (.mv (.tmp 0))), []⟩, ⟨(some 23), none, (.r (.mv (.tmp 1))), []⟩, ⟨(some 24), none, (.c (.fn 79 [(.tmp 22), (.tmp 23)])), []⟩, ⟨(some 25), none, (.r (.mki 149 (.tmp 24))), []⟩, ⟨(some 10), none, (.a (.tmp 25)), []⟩])
  .ret)
  (.seq (.run [⟨(some 27), none, (.r (.mki 147 (.const (.int .i64 3)))), []⟩, ⟨(some 28), none, (.r (.ieq false [2, 3, 5, 6, 12, 21, 33, 34, 40, 44, 68, 76, 94, 101, 138, 147, 166, 168, 169, 181] (.tmp 11) (.tmp 27))), []⟩, ⟨(some 26), none, (.a (.tmp 28)), []⟩])
  (.cond (.tmp 26)
  (.seq (.run [⟨(some 29), none, (.r (.mv (.tmp 0))), []⟩, ⟨(some 30), none, (.r (.mv (.tmp 1))), []⟩, ⟨(some 31), none, (.r (.mv (.tmp 2))), []⟩, ⟨(some 32), none, (.c (.fn 80 [(.tmp 29), (.tmp 30), (.tmp 31)])), []⟩, ⟨(some 33), none, (.r (.mki 149 (.tmp 32))), []⟩, ⟨(some 10), none, (.a (.tmp 33)), []⟩])
  .ret)
  (.seq (.run [⟨(some 35), none, (.r (.mki 147 (.const (.int .i64 4)))), []⟩, ⟨(some 36), none, (.r (.ieq false [2, 3, 5, 6, 12, 21, 33, 34, 40, 44, 68, 76, 94, 101, 138, 147, 166, 168, 169, 181] (.tmp 11) (.tmp 35))), []⟩, ⟨(some 34), none, (.a (.tmp 36)), []⟩])
  (.cond (.tmp 34)
  (.seq (.run [⟨(some 37), none, (.r (.mv (.tmp 0))), []⟩, ⟨(some 38), none, (.r (.mv (.tmp 1))), []⟩, ⟨(some 39), none, (.r (.mv (.tmp 3))), []⟩, ⟨(some 40), none, (.c (.fn 81 [(.tmp 37), (.tmp 38), (.tmp 39)])), []⟩, ⟨(some 41), none, (.r (.mki 149 (.tmp 40))), []⟩, ⟨(some 10), none, (.a (.tmp 41)), []⟩])
  .ret)
  .skip))))))))))
  rc74_0))
def ce74 : List (Nat × List Nat × List Nat) := []
def ro74 : List RO := [(.mv (.tmp 10))]
theorem ok74 : okFn Tryd.prog 74 43 ce74 = some (rc74, ro74) := by kernel_rfl
/-! internal/strconv.lower -/

def rc76 : RC := (.seq (.run [⟨(some 2), none, (.a (.const (.int .u8 0))), []⟩])
  (.seq (.run [⟨(some 3), none, (.r (.mv (.tmp 0))), []⟩, ⟨(some 4), none, (.r (.bin .or (.tmp 3) (.const (.int .u8 32)))), []⟩, ⟨(some 2), none, (.a (.tmp 4)), []⟩])
  .ret))
def ce76 : List (Nat × List Nat × List Nat) := []
def ro76 : List RO := [(.mv (.tmp 2))]
theorem ok76 : okFn Tryd.prog 76 5 ce76 = some (rc76, ro76) := by kernel_rfl
/-! internal/strconv.underscoreOK -/
def rc77_0 : RC := (.seq (.run [⟨(some 3), none, (.a (.const (.int .i32 95))), []⟩])
  (.exit 1))
def rc77_1 : RC := (.seq (.seq (.run [⟨(some 90), none, (.r (.mv (.tmp 3))), []⟩, ⟨(some 91), none, (.r (.bin .eql (.tmp 90) (.const (.int .i32 95)))), []⟩])
  (.cond (.tmp 91)
  (.seq (.run [⟨(some 2), none, (.a (.const (.bool false))), []⟩])
  .ret)
  .skip))
  (.run [⟨(some 3), none, (.a (.const (.int .i32 33))), []⟩]))
def rc77_2 : RC := (.seq (.seq (.run [⟨(some 84), none, (.r (.mv (.tmp 0))), []⟩, ⟨(some 85), none, (.r (.mv (.tmp 4))), []⟩, ⟨(some 86), none, (.r (.ixs (.tmp 84) (.tmp 85))), []⟩, ⟨(some 87), none, (.r (.bin .eql (.tmp 86) (.const (.int .u8 95)))), []⟩])
  (.cond (.tmp 87)
  (.seq (.seq (.run [⟨(some 88), none, (.r (.mv (.tmp 3))), []⟩, ⟨(some 89), none, (.r (.bin .neq (.tmp 88) (.const (.int .i32 48)))), []⟩])
  (.cond (.tmp 89)
  (.seq (.run [⟨(some 2), none, (.a (.const (.bool false))), []⟩])
  .ret)
  .skip))
  rc77_0)
  .skip))
  rc77_1)
def rc77_3 : RC := (.seq (.block 1 (.seq (.seq (.run [⟨(some 57), none, (.r (.mv (.tmp 0))), []⟩, ⟨(some 58), none, (.r (.mv (.tmp 4))), []⟩, ⟨(some 59), none, (.r (.ixs (.tmp 57) (.tmp 58))), []⟩, ⟨(some 60), none, (.r (.bin .leq (.const (.int .u8 48)) (.tmp 59))), []⟩, ⟨(some 61), none, (.r (.mv (.tmp 60))), []⟩, ⟨(some 62), (some (61, true)), (.r (.mv (.tmp 0))), []⟩, ⟨(some 63), (some (61, true)), (.r (.mv (.tmp 4))), []⟩, ⟨(some 64), (some (61, true)), (.r (.ixs (.tmp 62) (.tmp 63))), []⟩, ⟨(some 65), (some (61, true)), (.r (.bin .leq (.tmp 64) (.const (.int .u8 57)))), []⟩, ⟨(some 66), none, (.r (.pick (.tmp 61) (.tmp 65) (.const (.bool false)))), []⟩, ⟨(some 67), none, (.r (.mv (.tmp 66))), []⟩, ⟨(some 68), (some (67, false)), (.r (.mv (.tmp 5))), []⟩, ⟨(some 69), (some (67, false)), (.r (.mv (.tmp 68))), []⟩, ⟨(some 70), (some (69, true)), (.r (.mv (.tmp 0))), []⟩, ⟨(some 71), (some (69, true)), (.r (.mv (.tmp 4))), []⟩, ⟨(some 72), (some (69, true)), (.r (.ixs (.tmp 70) (.tmp 71))), []⟩, ⟨(some 73), (some (69, true)), (.c (.fn 76 [(.tmp 72)])), []⟩, ⟨(some 74), (some (69, true)), (.r (.bin .leq (.const (.int .u8 97)) (.tmp 73))), []⟩, ⟨(some 75), (some (67, false)), (.r (.pick (.tmp 69) (.tmp 74) (.const (.bool false)))), []⟩, ⟨(some 76), (some (67, false)), (.r (.mv (.tmp 75))), []⟩, ⟨(some 77), (some (76, true)), (.r (.mv (.tmp 0))), []⟩, ⟨(some 78), (some (76, true)), (.r (.mv (.tmp 4))), []⟩, ⟨(some 79), (some (76, true)), (.r (.ixs (.tmp 77) (.tmp 78))), []⟩, ⟨(some 80), (some (76, true)), (.c (.fn 76 [(.tmp 79)])), []⟩, ⟨(some 81), (some (76, true)), (.r (.bin .leq (.tmp 80) (.const (.int .u8 102)))), []⟩, ⟨(some 82), (some (67, false)), (.r (.pick (.tmp 76) (.tmp 81) (.const (.bool false)))), []⟩, ⟨(some 83), none, (.r (.pick (.tmp 67) (.const (.bool true)) (.tmp 82))), []⟩])
  (.cond (.tmp 83)
  (.seq (.run [⟨(some 3), none, (.a (.const (.int .i32 48))), []⟩])
  (.exit 1))
  .skip))
  rc77_2))
  (.run [⟨(some 55), none, (.r (.mv (.tmp 4))), []⟩, ⟨(some 56), none, (.r (.bin .add (.tmp 55) (.const (.int .i64 1)))), []⟩, ⟨(some 4), none, (.a (.tmp 56)), []⟩]))
def rc77_4 : RC := (.seq (.seq (.run [⟨(some 51), none, (.r (.mv (.tmp 4))), []⟩, ⟨(some 52), none, (.r (.mv (.tmp 0))), []⟩, ⟨(some 53), none, (.r (.lens (.tmp 52))), []⟩, ⟨(some 54), none, (.r (.bin .lss (.tmp 51) (.tmp 53))), []⟩])
  (.cond (.tmp 54)
  .skip
  (.exit 0)))
  rc77_3)
def rc77_5 : RC := (.seq (.run [⟨(some 92), none, (.r (.mv (.tmp 3))), []⟩, ⟨(some 93), none, (.r (.bin .neq (.tmp 92) (.const (.int .i32 95)))), []⟩, ⟨(some 2), none, (.a (.tmp 93)), []⟩])
  .ret)
def rc77_6 : RC := (.seq (.block 0 (.loop rc77_4))
  rc77_5)
def rc77_7 : RC := (.seq (.run [⟨(some 5), none, (.a (.const (.bool false))), []⟩])
  (.seq (.seq (.run [⟨(some 21), none, (.r (.mv (.tmp 0))), []⟩, ⟨(some 22), none, (.r (.lens (.tmp 21))), []⟩, ⟨(some 23), none, (.r (.bin .geq (.tmp 22) (.const (.int .i64 2)))), []⟩, ⟨(some 24), none, (.r (.mv (.tmp 23))), []⟩, ⟨(some 25), (some (24, true)), (.r (.mv (.tmp 0))), []⟩, ⟨(some 26), (some (24, true)), (.r (.ixs (.tmp 25) (.const (.int .i64 0)))), []⟩, ⟨(some 27), (some (24, true)), (.r (.bin .eql (.tmp 26) (.const (.int .u8 48)))), []⟩, ⟨(some 28), none, (.r (.pick (.tmp 24) (.tmp 27) (.const (.bool false)))), []⟩, ⟨(some 29), none, (.r (.mv (.tmp 28))), []⟩, ⟨(some 30), (some (29, true)), (.r (.mv (.tmp 0))), []⟩, ⟨(some 31), (some (29, true)), (.r (.ixs (.tmp 30) (.const (.int .i64 1)))), []⟩, ⟨(some 32), (some (29, true)), (.c (.fn 76 [(.tmp 31)])), []⟩, ⟨(some 33), (some (29, true)), (.r (.bin .eql (.tmp 32) (.const (.int .u8 98)))), []⟩, ⟨(some 34), (some (29, true)), (.r (.mv (.tmp 33))), []⟩, ⟨(some 35), (some (34, false)), (.r (.mv (.tmp 0))), []⟩, ⟨(some 36), (some (34, false)), (.r (.ixs (.tmp 35) (.const (.int .i64 1)))), []⟩, ⟨(some 37), (some (34, false)), (.c (.fn 76 [(.tmp 36)])), []⟩, ⟨(some 38), (some (34, false)), (.r (.bin .eql (.tmp 37) (.const (.int .u8 111)))), []⟩, ⟨(some 39), (some (29, true)), (.r (.pick (.tmp 34) (.const (.bool true)) (.tmp 38))), []⟩, ⟨(some 40), (some (29, true)), (.r (.mv (.tmp 39))), []⟩, ⟨(some 41), (some (40, false)), (.r (.mv (.tmp 0))), []⟩, ⟨(some 42), (some (40, false)), (.r (.ixs (.tmp 41) (.const (.int .i64 1)))), []⟩, ⟨(some 43), (some (40, false)), (.c (.fn 76 [(.tmp 42)])), []⟩, ⟨(some 44), (some (40, false)), (.r (.bin .eql (.tmp 43) (.const (.int .u8 120)))), []⟩, ⟨(some 45), (some (29, true)), (.r (.pick (.tmp 40) (.const (.bool true)) (.tmp 44))), []⟩, ⟨(some 46), none, (.r (.pick (.tmp 29) (.tmp 45) (.const (.bool false)))), []⟩])
  (.cond (.tmp 46)
  (.seq (.run [⟨(some 4), none, (.a (.const (.int .i64 2))), []⟩])
  (.seq (.run [⟨(some 3), none, (.a (.const (.int .i32 48))), []⟩])
  (.run [⟨(some 47), none, (.r (.mv (.tmp 0))), []⟩, ⟨(some 48), none, (.r (.ixs (.tmp 47) (.const (.int .i64 1)))), []⟩, ⟨(some 49), none, (.c (.fn 76 [(.tmp 48)])), []⟩, ⟨(some 50), none, (.r (.bin .eql (.tmp 49) (.const (.int .u8 120)))), []⟩, ⟨(some 5), none, (.a (.tmp 50)), []⟩])))
  .skip))
  rc77_6))
def rc77 : RC := (.seq (.run [⟨(some 2), none, (.a (.const (.bool false))), []⟩])
  (.seq (.run [⟨(some 3), none, (.a (.const (.int .i32 94))), []⟩])
  (.seq (.run [⟨(some 4), none, (.a (.const (.int .i64 0))), []⟩])
  (.seq (.seq (.run [⟨(some 6), none, (.r (.mv (.tmp 0))), []⟩, ⟨(some 7), none, (.r (.lens (.tmp 6))), []⟩, ⟨(some 8), none, (.r (.bin .geq (.tmp 7) (.const (.int .i64 1)))), []⟩, ⟨(some 9), none, (.r (.mv (.tmp 8))), []⟩, ⟨(some 10), (some (9, true)), (.r (.mv (.tmp 0))), []⟩, ⟨(some 11), (some (9, true)), (.r (.ixs (.tmp 10) (.const (.int .i64 0)))), []⟩, ⟨(some 12), (some (9, true)), (.r (.bin .eql (.tmp 11) (.const (.int .u8 45)))), []⟩, ⟨(some 13), (some (9, true)), (.r (.mv (.tmp 12))), []⟩, ⟨(some 14), (some (13, false)), (.r (.mv (.tmp 0))), []⟩, ⟨(some 15), (some (13, false)), (.r (.ixs (.tmp 14) (.const (.int .i64 0)))), []⟩, ⟨(some 16), (some (13, false)), (.r (.bin .eql (.tmp 15) (.const (.int .u8 43)))), []⟩, ⟨(some 17), (some (9, true)), (.r (.pick (.tmp 13) (.const (.bool true)) (.tmp 16))), []⟩, ⟨(some 18), none, (.r (.pick (.tmp 9) (.tmp 17) (.const (.bool false)))), []⟩])
  (.cond (.tmp 18)
  (.run [⟨(some 19), none, (.r (.mv (.tmp 0))), []⟩, ⟨(some 20), none, (.r (.sls (.tmp 19) (some (.const (.int .i64 1))) none)), []⟩, ⟨(some 0), none, (.a (.tmp 20)), []⟩])
  .skip))
  rc77_7))))
def ce77 : List (Nat × List Nat × List Nat) := []
def ro77 : List RO := [(.mv (.tmp 2))]
theorem ok77 : okFn Tryd.prog 77 94 ce77 = some (rc77, ro77) := by kernel_rfl
/-! strconv.syntaxError -/

def rc78 : RC := (.seq (.run [⟨(some 4), none, (.a (.const (.pointer none))), []⟩])
  (.seq (.run [⟨(some 5), none, (.r (.mv (.tmp 0))), []⟩, ⟨(some 6), none, (.r (.mv (.tmp 1))), []⟩, ⟨(some 8), none, (.r (.ld (.global 5))), []⟩, ⟨(some 7), none, (.c (.fn 82 [(.tmp 6)])), [(8, none, .ld (.global 5))]⟩, ⟨(some 9), none, (.r (.bld [(.string ⟨#[]⟩), (.string ⟨#[]⟩), .nilIface] [(0, 1, (.tmp 5)), (1, 1, (.tmp 7)), (2, 1, (.tmp 8))])), []⟩, ⟨(some 10), none, (.e (.bx 154 (.tmp 9))), []⟩, ⟨(some 4), none, (.a (.tmp 10)), []⟩])
  .ret))
def ce78 : List (Nat × List Nat × List Nat) := [(1, [0, 1, 3, 2, 4, 5, 6], [0, 0, 2, 0, 15, 31, 63])]
def ro78 : List RO := [(.mv (.tmp 4))]
theorem ok78 : okFn Tryd.prog 78 11 ce78 = some (rc78, ro78) := by kernel_rfl
/-! strconv.rangeError -/

def rc79 : RC := (.seq (.run [⟨(some 4), none, (.a (.const (.pointer none))), []⟩])
  (.seq (.run [⟨(some 5), none, (.r (.mv (.tmp 0))), []⟩, ⟨(some 6), none, (.r (.mv (.tmp 1))), []⟩, ⟨(some 8), none, (.r (.ld (.global 6))), []⟩, ⟨(some 7), none, (.c (.fn 82 [(.tmp 6)])), [(8, none, .ld (.global 6))]⟩, ⟨(some 9), none, (.r (.bld [(.string ⟨#[]⟩), (.string ⟨#[]⟩), .nilIface] [(0, 1, (.tmp 5)), (1, 1, (.tmp 7)), (2, 1, (.tmp 8))])), []⟩, ⟨(some 10), none, (.e (.bx 154 (.tmp 9))), []⟩, ⟨(some 4), none, (.a (.tmp 10)), []⟩])
  .ret))
def ce79 : List (Nat × List Nat × List Nat) := [(1, [0, 1, 3, 2, 4, 5, 6], [0, 0, 2, 0, 15, 31, 63])]
def ro79 : List RO := [(.mv (.tmp 4))]
theorem ok79 : okFn Tryd.prog 79 11 ce79 = some (rc79, ro79) := by kernel_rfl
/-! strconv.baseError -/

def rc80 : RC := (.seq (.run [⟨(some 6), none, (.a (.const (.pointer none))), []⟩])
  (.seq (.run [⟨(some 7), none, (.r (.mv (.tmp 0))), []⟩, ⟨(some 8), none, (.r (.mv (.tmp 1))), []⟩, ⟨(some 9), none, (.c (.fn 82 [(.tmp 8)])), []⟩, ⟨(some 10), none, (.r (.mv (.tmp 2))), []⟩, ⟨(some 11), none, (.c (.fn 26 [(.tmp 10)])), []⟩, ⟨(some 12), none, (.r (.bin .add (.const (.string ⟨#[105, 110, 118, 97, 108, 105, 100, 32, 98, 97, 115, 101, 32]⟩)) (.tmp 11))), []⟩, ⟨(some 13), none, (.c (.fn 83 [(.tmp 12)])), []⟩, ⟨(some 14), none, (.r (.bld [(.string ⟨#[]⟩), (.string ⟨#[]⟩), .nilIface] [(0, 1, (.tmp 7)), (1, 1, (.tmp 9)), (2, 1, (.tmp 13))])), []⟩, ⟨(some 15), none, (.e (.bx 154 (.tmp 14))), []⟩, ⟨(some 6), none, (.a (.tmp 15)), []⟩])
  .ret))
def ce80 : List (Nat × List Nat × List Nat) := []
def ro80 : List RO := [(.mv (.tmp 6))]
theorem ok80 : okFn Tryd.prog 80 16 ce80 = some (rc80, ro80) := by kernel_rfl
/-! strconv.bitSizeError -/

def rc81 : RC := (.seq (.run [⟨(some 6), none, (.a (.const (.pointer none))), []⟩])
  (.seq (.run [⟨(some 7), none, (.r (.mv (.tmp 0))), []⟩, ⟨(some 8), none, (.r (.mv (.tmp 1))), []⟩, ⟨(some 9), none, (.c (.fn 82 [(.tmp 8)])), []⟩, ⟨(some 10), none, (.r (.mv (.tmp 2))), []⟩, ⟨(some 11), none, (.c (.fn 26 [(.tmp 10)])), []⟩, ⟨(some 12), none, (.r (.bin .add (.const (.string ⟨#[105, 110, 118, 97, 108, 105, 100, 32, 98, 105, 116, 32, 115, 105, 122, 101, 32]⟩)) (.tmp 11))), []⟩, ⟨(some 13), none, (.c (.fn 83 [(.tmp 12)])), []⟩, ⟨(some 14), none, (.r (.bld [(.string ⟨#[]⟩), (.string ⟨#[]⟩), .nilIface] [(0, 1, (.tmp 7)), (1, 1, (.tmp 9)), (2, 1, (.tmp 13))])), []⟩, ⟨(some 15), none, (.e (.bx 154 (.tmp 14))), []⟩, ⟨(some 6), none, (.a (.tmp 15)), []⟩])
  .ret))
def ce81 : List (Nat × List Nat × List Nat) := []
def ro81 : List RO := [(.mv (.tmp 6))]
theorem ok81 : okFn Tryd.prog 81 16 ce81 = some (rc81, ro81) := by kernel_rfl
/-! internal/stringslite.Clone -/
def rc82_0 : RC := (.seq (.run [⟨(some 7), none, (.r (.mv (.tmp 0))), []⟩, ⟨(some 8), none, (.r (.lens (.tmp 7))), []⟩, ⟨(some 9), none, (.e (.mks 5 1 (.int .u8 0) (.tmp 8) (.tmp 8))), []⟩, ⟨(some 3), none, (.a (.tmp 9)), []⟩])
  (.seq (.run [⟨(some 10), none, (.r (.mv (.tmp 3))), []⟩, ⟨(some 11), none, (.r (.mv (.tmp 0))), []⟩, ⟨(some 12), none, (.e (.cpy 1 (.tmp 10) (.tmp 11))), []⟩])
  (.seq (.run [⟨(some 13), none, (.r (.mv (.tmp 3))), []⟩, ⟨(some 14), none, (.r (.ia 1 (.tmp 13) (.const (.int .i64 0)))), []⟩, ⟨(some 15), none, (.r (.mv (.tmp 3))), []⟩, ⟨(some 16), none, (.r (.lenl (.tmp 15))), []⟩, ⟨(some 17), none, (.e (.ust 5 (.tmp 14) (.tmp 16))), []⟩, ⟨(some 2), none, (.a (.tmp 17)), []⟩])
  .ret)))
def rc82 : RC := (.seq (.run [⟨(some 2), none, (.a (.const (.string ⟨#[]⟩))), []⟩])
  (.seq (.seq (.run [⟨(some 4), none, (.r (.mv (.tmp 0))), []⟩, ⟨(some 5), none, (.r (.lens (.tmp 4))), []⟩, ⟨(some 6), none, (.r (.bin .eql (.tmp 5) (.const (.int .i64 0)))), []⟩])
  (.cond (.tmp 6)
  (.seq (.run [⟨(some 2), none, (.a (.const (.string ⟨#[]⟩))), []⟩])
  .ret)
  .skip))
  rc82_0))
def ce82 : List (Nat × List Nat × List Nat) := []
def ro82 : List RO := [(.mv (.tmp 2))]
theorem ok82 : okFn Tryd.prog 82 18 ce82 = some (rc82, ro82) := by kernel_rfl
/-! errors.New -/

def rc83 : RC := (.seq (.run [⟨(some 2), none, (.a (.const .nilIface)), []⟩])
  (.seq (.run [⟨(some 3), none, (.r (.mv (.tmp 0))), []⟩, ⟨(some 4), none, (.r (.bld [(.string ⟨#[]⟩)] [(0, 1, (.tmp 3))])), []⟩, ⟨(some 5), none, (.e (.bx 158 (.tmp 4))), []⟩, ⟨(some 6), none, (.r (.mki 156 (.tmp 5))), []⟩, ⟨(some 2), none, (.a (.tmp 6)), []⟩])
  .ret))
def ce83 : List (Nat × List Nat × List Nat) := []
def ro83 : List RO := [(.mv (.tmp 2))]
theorem ok83 : okFn Tryd.prog 83 7 ce83 = some (rc83, ro83) := by kernel_rfl
/-! (lifeline/api.Fault).Unwrap -/

def rc104 : RC := (.seq (.run [⟨(some 1), none, (.e (.bx 84 (.tmp 0))), []⟩, ⟨(some 2), none, (.a (.const .nilIface)), []⟩])
  (.seq (.run [⟨(some 3), none, (.r (.fa 0 (.tmp 1))), []⟩, ⟨(some 4), none, (.r (.ld (.tmp 3))), []⟩, ⟨(some 5), none, (.r (.mki 44 (.tmp 4))), []⟩, ⟨(some 2), none, (.a (.tmp 5)), []⟩])
  .ret))
def ce104 : List (Nat × List Nat × List Nat) := []
def ro104 : List RO := [(.mv (.tmp 2))]
theorem ok104 : okFn Tryd.prog 104 6 ce104 = some (rc104, ro104) := by kernel_rfl
/-! (*strconv.NumError).Unwrap -/

def rc121 : RC := (.seq (.run [⟨(some 2), none, (.a (.const .nilIface)), []⟩])
  (.seq (.run [⟨(some 3), none, (.r (.mv (.tmp 0))), []⟩, ⟨(some 4), none, (.r (.nck (.tmp 3))), []⟩, ⟨(some 5), none, (.r (.fa 2 (.tmp 4))), []⟩, ⟨(some 6), none, (.r (.ld (.tmp 5))), []⟩, ⟨(some 2), none, (.a (.tmp 6)), []⟩])
  .ret))
def ce121 : List (Nat × List Nat × List Nat) := []
def ro121 : List RO := [(.mv (.tmp 2))]
theorem ok121 : okFn Tryd.prog 121 7 ce121 = some (rc121, ro121) := by kernel_rfl
/-! gosem.cut.vars -/

def rc132 : RC := (.seq (.run [⟨(some 0), none, (.r (.bld [(.int .u8 0), (.int .u8 0), (.int .u8 0), (.int .u8 0), (.int .u8 0), (.int .u8 0), (.int .u8 0), (.int .u8 0), (.int .u8 0), (.int .u8 0), (.int .u8 0), (.int .u8 0), (.int .u8 0), (.int .u8 0), (.int .u8 0), (.int .u8 0), (.int .u8 0), (.int .u8 0), (.int .u8 0), (.int .u8 0), (.int .u8 0), (.int .u8 0), (.int .u8 0), (.int .u8 0), (.int .u8 0), (.int .u8 0), (.int .u8 0), (.int .u8 0), (.int .u8 0), (.int .u8 0), (.int .u8 0), (.int .u8 0)] [(0, 1, (.const (.int .u8 0))), (1, 1, (.const (.int .u8 1))), (2, 1, (.const (.int .u8 28))), (3, 1, (.const (.int .u8 2))), (4, 1, (.const (.int .u8 29))), (5, 1, (.const (.int .u8 14))), (6, 1, (.const (.int .u8 24))), (7, 1, (.const (.int .u8 3))), (8, 1, (.const (.int .u8 30))), (9, 1, (.const (.int .u8 22))), (10, 1, (.const (.int .u8 20))), (11, 1, (.const (.int .u8 15))), (12, 1, (.const (.int .u8 25))), (13, 1, (.const (.int .u8 17))), (14, 1, (.const (.int .u8 4))), (15, 1, (.const (.int .u8 8))), (16, 1, (.const (.int .u8 31))), (17, 1, (.const (.int .u8 27))), (18, 1, (.const (.int .u8 13))), (19, 1, (.const (.int .u8 23))), (20, 1, (.const (.int .u8 21))), (21, 1, (.const (.int .u8 19))), (22, 1, (.const (.int .u8 16))), (23, 1, (.const (.int .u8 7))), (24, 1, (.const (.int .u8 26))), (25, 1, (.const (.int .u8 12))), (26, 1, (.const (.int .u8 18))), (27, 1, (.const (.int .u8 6))), (28, 1, (.const (.int .u8 11))), (29, 1, (.const (.int .u8 5))), (30, 1, (.const (.int .u8 10))), (31, 1, (.const (.int .u8 9)))])), []⟩, ⟨none, none, (.e (.st 32 (.global 2) (.tmp 0))), []⟩])
  (.seq (.run [⟨(some 1), none, (.r (.bld [(.int .u8 0), (.int .u8 0), (.int .u8 0), (.int .u8 0), (.int .u8 0), (.int .u8 0), (.int .u8 0), (.int .u8 0), (.int .u8 0), (.int .u8 0), (.int .u8 0), (.int .u8 0), (.int .u8 0), (.int .u8 0), (.int .u8 0), (.int .u8 0), (.int .u8 0), (.int .u8 0), (.int .u8 0), (.int .u8 0), (.int .u8 0), (.int .u8 0), (.int .u8 0), (.int .u8 0), (.int .u8 0), (.int .u8 0), (.int .u8 0), (.int .u8 0), (.int .u8 0), (.int .u8 0), (.int .u8 0), (.int .u8 0), (.int .u8 0), (.int .u8 0), (.int .u8 0), (.int .u8 0), (.int .u8 0), (.int .u8 0), (.int .u8 0), (.int .u8 0), (.int .u8 0), (.int .u8 0), (.int .u8 0), (.int .u8 0), (.int .u8 0), (.int .u8 0), (.int .u8 0), (.int .u8 0), (.int .u8 0), (.int .u8 0), (.int .u8 0), (.int .u8 0), (.int .u8 0), (.int .u8 0), (.int .u8 0), (.int .u8 0), (.int .u8 0), (.int .u8 0), (.int .u8 0), (.int .u8 0), (.int .u8 0), (.int .u8 0), (.int .u8 0), (.int .u8 0)] [(0, 1, (.const (.int .u8 0))), (1, 1, (.const (.int .u8 1))), (2, 1, (.const (.int .u8 56))), (3, 1, (.const (.int .u8 2))), (4, 1, (.const (.int .u8 57))), (5, 1, (.const (.int .u8 49))), (6, 1, (.const (.int .u8 28))), (7, 1, (.const (.int .u8 3))), (8, 1, (.const (.int .u8 61))), (9, 1, (.const (.int .u8 58))), (10, 1, (.const (.int .u8 42))), (11, 1, (.const (.int .u8 50))), (12, 1, (.const (.int .u8 38))), (13, 1, (.const (.int .u8 29))), (14, 1, (.const (.int .u8 17))), (15, 1, (.const (.int .u8 4))), (16, 1, (.const (.int .u8 62))), (17, 1, (.const (.int .u8 47))), (18, 1, (.const (.int .u8 59))), (19, 1, (.const (.int .u8 36))), (20, 1, (.const (.int .u8 45))), (21, 1, (.const (.int .u8 43))), (22, 1, (.const (.int .u8 51))), (23, 1, (.const (.int .u8 22))), (24, 1, (.const (.int .u8 53))), (25, 1, (.const (.int .u8 39))), (26, 1, (.const (.int .u8 33))), (27, 1, (.const (.int .u8 30))), (28, 1, (.const (.int .u8 24))), (29, 1, (.const (.int .u8 18))), (30, 1, (.const (.int .u8 12))), (31, 1, (.const (.int .u8 5))), (32, 1, (.const (.int .u8 63))), (33, 1, (.const (.int .u8 55))), (34, 1, (.const (.int .u8 48))), (35, 1, (.const (.int .u8 27))), (36, 1, (.const (.int .u8 60))), (37, 1, (.const (.int .u8 41))), (38, 1, (.const (.int .u8 37))), (39, 1, (.const (.int .u8 16))), (40, 1, (.const (.int .u8 46))), (41, 1, (.const (.int .u8 35))), (42, 1, (.const (.int .u8 44))), (43, 1, (.const (.int .u8 21))), (44, 1, (.const (.int .u8 52))), (45, 1, (.const (.int .u8 32))), (46, 1, (.const (.int .u8 23))), (47, 1, (.const (.int .u8 11))), (48, 1, (.const (.int .u8 54))), (49, 1, (.const (.int .u8 26))), (50, 1, (.const (.int .u8 40))), (51, 1, (.const (.int .u8 15))), (52, 1, (.const (.int .u8 34))), (53, 1, (.const (.int .u8 20))), (54, 1, (.const (.int .u8 31))), (55, 1, (.const (.int .u8 10))), (56, 1, (.const (.int .u8 25))), (57, 1, (.const (.int .u8 14))), (58, 1, (.const (.int .u8 19))), (59, 1, (.const (.int .u8 9))), (60, 1, (.const (.int .u8 13))), (61, 1, (.const (.int .u8 8))), (62, 1, (.const (.int .u8 7))), (63, 1, (.const (.int .u8 6)))])), []⟩, ⟨none, none, (.e (.st 64 (.global 3) (.tmp 1))), []⟩])
  (.seq (.run [⟨(some 2), none, (.r (.bld [(.int .u64 0), (.int .u64 0), (.int .u64 0), (.int .u64 0), (.int .u64 0), (.int .u64 0), (.int .u64 0), (.int .u64 0), (.int .u64 0), (.int .u64 0), (.int .u64 0), (.int .u64 0), (.int .u64 0), (.int .u64 0), (.int .u64 0), (.int .u64 0), (.int .u64 0), (.int .u64 0), (.int .u64 0), (.int .u64 0)] [(0, 1, (.const (.int .u64 1))), (1, 1, (.const (.int .u64 10))), (2, 1, (.const (.int .u64 100))), (3, 1, (.const (.int .u64 1000))), (4, 1, (.const (.int .u64 10000))), (5, 1, (.const (.int .u64 100000))), (6, 1, (.const (.int .u64 1000000))), (7, 1, (.const (.int .u64 10000000))), (8, 1, (.const (.int .u64 100000000))), (9, 1, (.const (.int .u64 1000000000))), (10, 1, (.const (.int .u64 10000000000))), (11, 1, (.const (.int .u64 100000000000))), (12, 1, (.const (.int .u64 1000000000000))), (13, 1, (.const (.int .u64 10000000000000))), (14, 1, (.const (.int .u64 100000000000000))), (15, 1, (.const (.int .u64 1000000000000000))), (16, 1, (.const (.int .u64 10000000000000000))), (17, 1, (.const (.int .u64 100000000000000000))), (18, 1, (.const (.int .u64 1000000000000000000))), (19, 1, (.const (.int .u64 10000000000000000000)))])), []⟩, ⟨none, none, (.e (.st 20 (.global 1) (.tmp 2))), []⟩])
  (.seq (.run [⟨(some 3), none, (.r (.mki 184 (.const (.pointer none)))), []⟩, ⟨(some 4), none, (.c (.fn 59 [(.tmp 3)])), []⟩, ⟨(some 5), none, (.c (.inv (.tmp 4) "Elem" [])), []⟩, ⟨none, none, (.e (.st 1 (.global 0) (.tmp 5))), []⟩])
  (.seq (.run [⟨(some 6), none, (.c (.fn 83 [(.const (.string ⟨#[118, 97, 108, 117, 101, 32, 111, 117, 116, 32, 111, 102, 32, 114, 97, 110, 103, 101]⟩))])), []⟩, ⟨none, none, (.e (.st 1 (.global 6) (.tmp 6))), []⟩])
  (.run [⟨(some 7), none, (.c (.fn 83 [(.const (.string ⟨#[105, 110, 118, 97, 108, 105, 100, 32, 115, 121, 110, 116, 97, 120]⟩))])), []⟩, ⟨none, none, (.e (.st 1 (.global 5) (.tmp 7))), []⟩]))))))
def ce132 : List (Nat × List Nat × List Nat) := []
def ro132 : List RO := []
theorem ok132 : okFn Tryd.prog 132 8 ce132 = some (rc132, ro132) := by kernel_rfl
end Go.Proofs.YtgfkjldohilmkaaDoor.Ab

set_option maxRecDepth 20000
namespace Go.Proofs.YtgfkjldohilmkaaDoor.Ab
open Go Go.RowKit
def tab : List TE := [⟨2, 1, rc2, ro2⟩, ⟨3, 31, rc3, ro3⟩, ⟨4, 46, rc4, ro4⟩, ⟨5, 48, rc5, ro5⟩, ⟨6, 34, rc6, ro6⟩, ⟨7, 69, rc7, ro7⟩, ⟨8, 107, rc8, ro8⟩, ⟨9, 26, rc9, ro9⟩, ⟨10, 23, rc10, ro10⟩, ⟨11, 59, rc11, ro11⟩, ⟨12, 53, rc12, ro12⟩, ⟨13, 60, rc13, ro13⟩, ⟨14, 26, rc14, ro14⟩, ⟨15, 2, rc15, ro15⟩, ⟨16, 26, rc16, ro16⟩, ⟨17, 24, rc17, ro17⟩, ⟨18, 8, rc18, ro18⟩, ⟨19, 9, rc19, ro19⟩, ⟨20, 111, rc20, ro20⟩, ⟨21, 113, rc21, ro21⟩, ⟨22, 37, rc22, ro22⟩, ⟨23, 50, rc23, ro23⟩, ⟨24, 19, rc24, ro24⟩, ⟨25, 8, rc25, ro25⟩, ⟨26, 5, rc26, ro26⟩, ⟨27, 8, rc27, ro27⟩, ⟨28, 14, rc28, ro28⟩, ⟨29, 75, rc29, ro29⟩, ⟨30, 65, rc30, ro30⟩, ⟨31, 30, rc31, ro31⟩, ⟨32, 42, rc32, ro32⟩, ⟨33, 63, rc33, ro33⟩, ⟨34, 25, rc34, ro34⟩, ⟨35, 17, rc35, ro35⟩, ⟨36, 20, rc36, ro36⟩, ⟨37, 54, rc37, ro37⟩, ⟨38, 5, rc38, ro38⟩, ⟨39, 32, rc39, ro39⟩, ⟨40, 9, rc40, ro40⟩, ⟨41, 59, rc41, ro41⟩, ⟨42, 48, rc42, ro42⟩, ⟨46, 62, rc46, ro46⟩, ⟨48, 15, rc48, ro48⟩, ⟨49, 15, rc49, ro49⟩, ⟨50, 167, rc50, ro50⟩, ⟨51, 102, rc51, ro51⟩, ⟨52, 9, rc52, ro52⟩, ⟨53, 33, rc53, ro53⟩, ⟨54, 9, rc54, ro54⟩, ⟨55, 59, rc55, ro55⟩, ⟨56, 61, rc56, ro56⟩, ⟨57, 8, rc57, ro57⟩, ⟨58, 25, rc58, ro58⟩, ⟨62, 6, rc62, ro62⟩, ⟨63, 25, rc63, ro63⟩, ⟨64, 4, rc64, ro64⟩, ⟨65, 8, rc65, ro65⟩, ⟨66, 8, rc66, ro66⟩, ⟨67, 8, rc67, ro67⟩, ⟨68, 26, rc68, ro68⟩, ⟨69, 8, rc69, ro69⟩, ⟨70, 14, rc70, ro70⟩, ⟨71, 14, rc71, ro71⟩, ⟨72, 18, rc72, ro72⟩, ⟨73, 172, rc73, ro73⟩, ⟨74, 43, rc74, ro74⟩, ⟨76, 5, rc76, ro76⟩, ⟨77, 94, rc77, ro77⟩, ⟨78, 11, rc78, ro78⟩, ⟨79, 11, rc79, ro79⟩, ⟨80, 16, rc80, ro80⟩, ⟨81, 16, rc81, ro81⟩, ⟨82, 18, rc82, ro82⟩, ⟨83, 7, rc83, ro83⟩, ⟨104, 6, rc104, ro104⟩, ⟨121, 7, rc121, ro121⟩, ⟨132, 8, rc132, ro132⟩]
theorem tab_ok : TOk Tryd.prog tab := by
  intro t ht
  simp only [tab, List.mem_cons, List.mem_nil_iff, or_false] at ht
  rcases ht with rfl | rfl | rfl | rfl | rfl | rfl | rfl | rfl | rfl | rfl | rfl | rfl | rfl | rfl | rfl | rfl | rfl | rfl | rfl | rfl | rfl | rfl | rfl | rfl | rfl | rfl | rfl | rfl | rfl | rfl | rfl | rfl | rfl | rfl | rfl | rfl | rfl | rfl | rfl | rfl | rfl | rfl | rfl | rfl | rfl | rfl | rfl | rfl | rfl | rfl | rfl | rfl | rfl | rfl | rfl | rfl | rfl | rfl | rfl | rfl | rfl | rfl | rfl | rfl | rfl | rfl | rfl | rfl | rfl | rfl | rfl | rfl | rfl | rfl | rfl | rfl | rfl
  · exact ⟨_, ok2⟩
  · exact ⟨_, ok3⟩
  · exact ⟨_, ok4⟩
  · exact ⟨_, ok5⟩
  · exact ⟨_, ok6⟩
  · exact ⟨_, ok7⟩
  · exact ⟨_, ok8⟩
  · exact ⟨_, ok9⟩
  · exact ⟨_, ok10⟩
  · exact ⟨_, ok11⟩
  · exact ⟨_, ok12⟩
  · exact ⟨_, ok13⟩
  · exact ⟨_, ok14⟩
  · exact ⟨_, ok15⟩
  · exact ⟨_, ok16⟩
  · exact ⟨_, ok17⟩
  · exact ⟨_, ok18⟩
  · exact ⟨_, ok19⟩
  · exact ⟨_, ok20⟩
  · exact ⟨_, ok21⟩
  · exact ⟨_, ok22⟩
  · exact ⟨_, ok23⟩
  · exact ⟨_, ok24⟩
  · exact ⟨_, ok25⟩
  · exact ⟨_, ok26⟩
  · exact ⟨_, ok27⟩
  · exact ⟨_, ok28⟩
  · exact ⟨_, ok29⟩
  · exact ⟨_, ok30⟩
  · exact ⟨_, ok31⟩
  · exact ⟨_, ok32⟩
  · exact ⟨_, ok33⟩
  · exact ⟨_, ok34⟩
  · exact ⟨_, ok35⟩
  · exact ⟨_, ok36⟩
  · exact ⟨_, ok37⟩
  · exact ⟨_, ok38⟩
  · exact ⟨_, ok39⟩
  · exact ⟨_, ok40⟩
  · exact ⟨_, ok41⟩
  · exact ⟨_, ok42⟩
  · exact ⟨_, ok46⟩
  · exact ⟨_, ok48⟩
  · exact ⟨_, ok49⟩
  · exact ⟨_, ok50⟩
  · exact ⟨_, ok51⟩
  · exact ⟨_, ok52⟩
  · exact ⟨_, ok53⟩
  · exact ⟨_, ok54⟩
  · exact ⟨_, ok55⟩
  · exact ⟨_, ok56⟩
  · exact ⟨_, ok57⟩
  · exact ⟨_, ok58⟩
  · exact ⟨_, ok62⟩
  · exact ⟨_, ok63⟩
  · exact ⟨_, ok64⟩
  · exact ⟨_, ok65⟩
  · exact ⟨_, ok66⟩
  · exact ⟨_, ok67⟩
  · exact ⟨_, ok68⟩
  · exact ⟨_, ok69⟩
  · exact ⟨_, ok70⟩
  · exact ⟨_, ok71⟩
  · exact ⟨_, ok72⟩
  · exact ⟨_, ok73⟩
  · exact ⟨_, ok74⟩
  · exact ⟨_, ok76⟩
  · exact ⟨_, ok77⟩
  · exact ⟨_, ok78⟩
  · exact ⟨_, ok79⟩
  · exact ⟨_, ok80⟩
  · exact ⟨_, ok81⟩
  · exact ⟨_, ok82⟩
  · exact ⟨_, ok83⟩
  · exact ⟨_, ok104⟩
  · exact ⟨_, ok121⟩
  · exact ⟨_, ok132⟩
theorem fnd47 : Extern.findNext Tryd.f47 = none := by kernel_rfl
theorem xis47 : xIs Tryd.prog 47 .same := ⟨Tryd.f47, _, Tryd.func47, by kernel_rfl, by kernel_rfl, fnd47, (by kernel_rfl : Extern.find Tryd.f47 = some Extern.AbiNoEscape.same), rfl⟩
theorem fnd75 : Extern.findNext Tryd.f75 = none := by kernel_rfl
theorem xis75 : xIs Tryd.prog 75 .idx := ⟨Tryd.f75, _, Tryd.func75, by kernel_rfl, by kernel_rfl, fnd75, (by kernel_rfl : Extern.find Tryd.f75 = some Extern.BytealgIndexByte.indexByte), rfl⟩
def xs : List (FuncId × XK) := [(47, .same), (75, .idx)]
theorem xs_ok : XOk Tryd.prog (xCall xs) := xCall_ok (by
  intro x hx
  simp only [xs, List.mem_cons, List.mem_nil_iff, or_false] at hx
  rcases hx with rfl | rfl
  · exact xis47
  · exact xis75)
end Go.Proofs.YtgfkjldohilmkaaDoor.Ab

set_option linter.unusedVariables false
set_option linter.unusedSimpArgs false
set_option maxHeartbeats 4000000
set_option maxRecDepth 100000
namespace Go.Proofs.YtgfkjldohilmkaaDoor.Ab
open Go Go.RowKit

def z32 : List Int := [0, 1, 28, 2, 29, 14, 24, 3, 30, 22, 20, 15, 25, 17, 4, 8, 31, 27, 13, 23, 21, 19, 16, 7, 26, 12, 18, 6, 11, 5, 10, 9]
def z64 : List Int := [0, 1, 56, 2, 57, 49, 28, 3, 61, 58, 42, 50, 38, 29, 17, 4, 62, 47, 59, 36, 45, 43, 51, 22, 53, 39, 33, 30, 24, 18, 12, 5, 63, 55, 48, 27, 60, 41, 37, 16, 46, 35, 44, 21, 52, 32, 23, 11, 54, 26, 40, 15, 34, 20, 31, 10, 25, 14, 19, 9, 13, 8, 7, 6]
def z10 : List Int := [1, 10, 100, 1000, 10000, 100000, 1000000, 10000000, 100000000, 1000000000, 10000000000, 100000000000, 1000000000000, 10000000000000, 100000000000000, 1000000000000000, 10000000000000000, 100000000000000000, 1000000000000000000, 10000000000000000000]
def e32 : List Value := z32.map fun z => .int .u8 z
def e64 : List Value := z64.map fun z => .int .u8 z
def e10 : List Value := z10.map fun z => .int .u64 z
def gs0 : List (Nat × List Value) := [(2, e32), (3, e64), (1, e10)]
def L0 : LM := ⟨7, (.n (.n (.n (.n (.n .dead (.ro e10) (.ro e32) (.ro e64) .dead .dead .dead .dead) .e .e .e .e .e .e .e) .e .e .e .e .e .e .e) .e .e .e .e .e .e .e) .e .e .e .e .e .e .e)⟩
theorem globals_size : Tryd.prog.globals.size = L0.n := by kernel_rfl
theorem L0_get (i : Nat) : L0.get i = entOf gs0 i := by
  by_cases h : i < 7
  · have : i = 0 ∨ i = 1 ∨ i = 2 ∨ i = 3 ∨ i = 4 ∨ i = 5 ∨ i = 6 := by omega
    rcases this with rfl | rfl | rfl | rfl | rfl | rfl | rfl <;> rfl
  · rw [LM.get_ge h]
    have n2 : (i == 2) = false := by simp; omega
    have n3 : (i == 3) = false := by simp; omega
    have n1 : (i == 1) = false := by simp; omega
    simp [entOf, gs0, List.lookup_cons, n2, n3, n1]
theorem laid_ok : laidB Tryd.prog gs0 = true := by kernel_rfl
theorem L0_part : partB L0 = true := by kernel_rfl
theorem laidIn {W : World} {l : List (String × DataW Unit)} (h : laidMet Tryd.prog l W) (h1 : ("math/bits.deBruijn32tab", Lib.tabData .u8 z32) ∈ l) (h2 : ("math/bits.deBruijn64tab", Lib.tabData .u8 z64) ∈ l) (h3 : ("internal/strconv.uint64pow10", Lib.tabData .u64 z10) ∈ l) : LaidIn Tryd.prog W gs0 where
  cell := by
    intro x hx
    simp only [gs0, List.mem_cons, List.mem_nil_iff, or_false] at hx
    rcases hx with rfl | rfl | rfl
    · exact laid_tab h h1 (by kernel_rfl) (by kernel_rfl) Tryd.underlying145 Tryd.underlying5 (by kernel_rfl) (by kernel_rfl)
    · exact laid_tab h h2 (by kernel_rfl) (by kernel_rfl) Tryd.underlying146 Tryd.underlying5 (by kernel_rfl) (by kernel_rfl)
    · exact laid_tab h h3 (by kernel_rfl) (by kernel_rfl) Tryd.underlying135 Tryd.underlying68 (by kernel_rfl) (by kernel_rfl)

theorem awk : outIs (.bool true) (callE tab (xCall xs) Tryd.prog 3000 9 [] L0) = true := by kernel_rfl
theorem c_awake {w0 : World} {m : Mem} {Q : Value → Mem → Prop} (hp : Part L0 m) (hq : Q (.bool true) m) : AbC Tryd.prog w0 9 [] m Q :=
  AbC_run 3000 tab_ok xs_ok hp (Nat.le_of_eq globals_size) rfl awk rfl hq
end Go.Proofs.YtgfkjldohilmkaaDoor.Ab

set_option linter.unusedVariables false
set_option linter.unusedSimpArgs false
namespace Go.Proofs.YtgfkjldohilmkaaDoor.Ab
open Go Go.RowKit
set_option maxHeartbeats 4000000
set_option maxRecDepth 100000

theorem closed {w0 : World} {m : Mem} {f : FuncId} {args : List Value} {v : Value} {Q : Value → Mem → Prop} {n : Nat} (hp : Part L0 m) (ha : args.all (plainV 6) = true) (h : outIs v (callE tab (xCall xs) Tryd.prog n f args L0) = true) (hv : plainV 6 v = true) (hq : Q v m) : AbC Tryd.prog w0 f args m Q :=
  AbC_run n tab_ok xs_ok hp (Nat.le_of_eq globals_size) ha h hv hq

/-- The sign of a digit. -/
def digC (d : Nat) : UInt8 := if d < 10 then UInt8.ofNat (48 + d) else UInt8.ofNat (87 + d)
/-- A number's digits in a base. -/
def digs (b n : Nat) : List UInt8 := if h : n < b ∨ b < 2 then [digC n] else digs b (n / b) ++ [digC (n % b)]
termination_by n
decreasing_by exact Nat.div_lt_self (by omega) (by omega)
theorem digs_lt {b n : Nat} (h : n < b) : digs b n = [digC n] := by rw [digs, dif_pos (.inl h)]
theorem digs_ge {b n : Nat} (hb : 2 ≤ b) (h : b ≤ n) : digs b n = digs b (n / b) ++ [digC (n % b)] := by rw [digs, dif_neg (by omega)]
theorem digs_pos (b n : Nat) : 1 ≤ (digs b n).length := by
  rw [digs]; split <;> simp
theorem digs_len {b : Nat} (hb : 2 ≤ b) : ∀ (L n : Nat), n < b ^ L → (digs b n).length ≤ max L 1
  | 0, n, h => by
    have : n < b := by simp at h; omega
    rw [digs_lt this]; simp
  | L + 1, n, h => by
    by_cases hn : n < b
    · rw [digs_lt hn]; simp
    · rw [digs_ge hb (by omega)]
      have h1 : n / b < b ^ L := by
        rw [Nat.div_lt_iff_lt_mul (by omega)]
        rw [Nat.pow_succ] at h; exact h
      have := digs_len hb L (n / b) h1
      simp only [List.length_append, List.length_cons, List.length_nil]
      by_cases hL : L = 0
      · subst hL
        exfalso
        simp at h; omega
      · omega
theorem digs_64 {b n : Nat} (hb : 8 ≤ b) (h : n < 18446744073709551616) : (digs b n).length ≤ 22 := by
  have h1 : (8 : Nat) ^ 22 ≤ b ^ 22 := Nat.pow_le_pow_left hb 22
  have h2 : (8 : Nat) ^ 22 = 73786976294838206464 := by decide
  have := digs_len (show 2 ≤ b by omega) 22 n (by omega)
  simpa using this

def digitsS : ByteArray := ⟨#[48, 49, 50, 51, 52, 53, 54, 55, 56, 57, 97, 98, 99, 100, 101, 102, 103, 104, 105, 106, 107, 108, 109, 110, 111, 112, 113, 114, 115, 116, 117, 118, 119, 120, 121, 122]⟩
theorem digitsS_at : ∀ d : Fin 36, digitsS[d.val]? = some (digC d.val) := by decide +kernel
theorem dAnd {u k : Nat} (hu : u < 18446744073709551616) (hk : k ≤ 63) {z : Int} (hz : z = ((2 ^ k - 1 : Nat) : Int)) : dBin .and (.int .u64 (u : Int)) (.int .u64 z) = some (.int .u64 ((u % 2 ^ k : Nat) : Int)) := by
  subst hz
  have h2 : (2 : Nat) ^ k ≤ 2 ^ 63 := Nat.pow_le_pow_right (by omega) hk
  have hp : 0 < (2 : Nat) ^ k := Nat.pow_pos (by omega)
  have h1 := binI_eq (op := .and) (k := .u64) (a := Int.ofNat u) (b := Int.ofNat (2 ^ k - 1)) (v := .int .u64 (IntKind.u64.wrap (Int.ofNat (Nat.land u (2 ^ k - 1))))) (by
    simp only [binI, bitI]
    rw [blt_true.2 (show u < kTop .u64 by simpa [kTop] using hu), blt_true.2 (show 2 ^ k - 1 < kTop .u64 by simp only [kTop]; omega)]
    simp only [wrapF_eq])
  have h3 : Nat.land u (2 ^ k - 1) = u % 2 ^ k := Nat.and_two_pow_sub_one_eq_mod u k
  have h4 : u % 2 ^ k < 2 ^ k := Nat.mod_lt _ hp
  have h5 : IntKind.u64.wrap (Int.ofNat (u % 2 ^ k)) = ((u % 2 ^ k : Nat) : Int) := by rw [IntWalk.u64_in]; rfl; simp only [Int.ofNat_eq_natCast]; omega
  rw [h3, h5] at h1
  exact h1
theorem dShr {u k : Nat} (hk : k ≤ 63) {z : Int} (hz : z = (k : Int)) : dBin .shr (.int .u64 (u : Int)) (.int .u64 z) = some (.int .u64 ((u / 2 ^ k : Nat) : Int)) := by
  subst hz
  have h1 := shI_eq (op := .shr) (k := .u64) (k' := .u64) (a := Int.ofNat u) (b := Int.ofNat k) (v := .int .u64 (Int.ofNat (Nat.shiftRight u k))) (by
    simp only [shI]
    rw [Nat.ble_eq_true_of_le (show k ≤ kBits .u64 by simp only [kBits]; omega)])
  have h2 : Nat.shiftRight u k = u / 2 ^ k := Nat.shiftRight_eq_div_pow u k
  rw [h2] at h1
  exact h1

/-- The last digit's place: cells with one more written ahead of the rest. -/
theorem putAt_ahead {cs : List Value} {t : List UInt8} {c : UInt8} (hl : cs.length = 65) (ht : t.length < 65) (hd : cs.drop (65 - t.length) = t.map byteV) :
    (putAt cs (65 - t.length - 1) [.int .u8 c.toNat]).length = 65 ∧ (putAt cs (65 - t.length - 1) [.int .u8 c.toNat]).drop (65 - (c :: t).length) = (c :: t).map byteV := by
  have e1 : 65 - (c :: t).length = 65 - t.length - 1 := by simp; omega
  have e2 : 65 - t.length - 1 + 1 = 65 - t.length := by omega
  have h9 : (cs.drop (65 - t.length)).length = t.length := by rw [hd]; simp
  refine ⟨by simp only [putAt, List.length_append, List.length_take, List.length_cons, List.length_nil, Nat.zero_add, e2, h9, hl]; omega, ?_⟩
  rw [e1]
  simp only [putAt, List.length_cons, List.length_nil, Nat.zero_add, e2, hd]
  rw [List.append_assoc, List.drop_append, List.length_take]
  rw [show min (65 - t.length - 1) cs.length = 65 - t.length - 1 from by omega, Nat.sub_self]
  rw [List.drop_eq_nil_of_le (by rw [List.length_take]; omega)]
  simp [byteV]

theorem bytesOf_mapN : ∀ (l : List UInt8), bytesOf (l.map byteV) = some l
  | [] => rfl
  | b :: l => by
    show (bytesOf (l.map byteV)).map (UInt8.ofNat ((b.toNat : Int).toNat) :: ·) = _
    rw [bytesOf_mapN l]
    simp
theorem bstr_tail {m : Mem} {i J : Nat} {e : TypeId} {cs : List Value} {t : List UInt8} (hg : m.get i = .own cs e) (hl : cs.length = 65) (hJ : 65 - t.length = J) (ht : t.length ≤ 65) (hd : cs.drop (65 - t.length) = t.map byteV) :
    bstr m (.slice (some ⟨i, J, none⟩) (65 - J) 1) = some (.string ⟨⟨t⟩⟩) := by
  rw [hJ] at hd
  have h1 : (cs.drop J).take (65 - J) = t.map byteV := by rw [hd]; exact List.take_of_length_le (by simp; omega)
  simp only [bstr, Mem.row_own hg]
  rw [if_pos (by omega), h1]
  simp only [bytesOf_mapN]

/-- What the sign adds. -/
def sgn (neg : Bool) : List UInt8 := if neg then [45] else []

theorem c_fmtTail {w0 : World} {m m1 : Mem} {ts : Fr} {B k a i : Nat} {neg : Bool} {Q : Value → Mem → Prop} {zs : List Value} (hp : Part L0 m1) (ho : Old m m1) (hi : m.next ≤ i) (hi2 : i < m1.next) (hz : m1.get i = .own zs 136) (hzl : zs.length = 65)
    (hB : B = 2 ^ k) (hk : 3 ≤ k ∧ k ≤ 5) (hB2 : 8 ≤ B) (hB3 : B ≤ 32) (ha : a < 18446744073709551616)
    (t1 : ts 1 = .int .u64 (a : Int)) (t2 : ts 2 = .int .i64 (B : Int)) (t3 : ts 3 = .bool neg) (t4 : ts 4 = .bool false) (t10 : ts 10 = .slice none 0 0) (t12 : ts 12 = .pointer (some ⟨i, 0, none⟩)) (t13 : ts 13 = .int .i64 65)
    (h1 : outIs (.bool true) (callE tab (xCall xs) Tryd.prog 50 65 [.int .i64 (B : Int)] L0) = true)
    (h2 : outIs (.int .i64 (k : Int)) (callE tab (xCall xs) Tryd.prog 50 66 [.int .u64 (B : Int)] L0) = true)
    (hq : ∀ m', Old m m' → Q (.tuple ⟨[.slice none 0 0, .string ⟨⟨sgn neg ++ digs B a⟩⟩]⟩) m') :
    AbW Tryd.prog w0 rc51_9 (bodyA ro51 Q) ts m1 := by
  have wB : IntKind.u64.wrap (B : Int) = B := IntWalk.u64_in _ (by omega)
  have wk : IntKind.u64.wrap (k : Int) = k := IntWalk.u64_in _ (by omega)
  have wB1 : IntKind.u64.wrap ((B : Int) - 1) = (B : Int) - 1 := IntWalk.u64_in _ (by omega)
  simp -implicitDefEqProofs (disch := first | assumption | (simp only [wnA]; done) | (simp only [wnA]; omega) | omega | fail) [rc51_9, ro51, wkA, retV, stabOk, dC, ev, fillD, pickCells, putAt, bnd, slD, List.getElem?_cons_zero, List.getElem?_cons_succ, dR.eq_20, Mem.cell, Mem.row, wmA, t2]
  refine closed hp rfl h1 rfl ?_
  simp -implicitDefEqProofs (disch := first | assumption | (simp only [wnA]; done) | (simp only [wnA]; omega) | omega | fail) [wkA, retV, stabOk, dC, ev, fillD, pickCells, putAt, bnd, slD, List.getElem?_cons_zero, List.getElem?_cons_succ, dR.eq_20, Mem.cell, Mem.row, wmA, t2, wB]
  refine closed hp rfl h2 rfl ?_
  simp -implicitDefEqProofs (disch := first | assumption | (simp only [wnA]; done) | (simp only [wnA]; omega) | omega | fail) [wkA, retV, stabOk, dC, ev, fillD, pickCells, putAt, bnd, slD, List.getElem?_cons_zero, List.getElem?_cons_succ, dR.eq_20, Mem.cell, Mem.row, wmA, t2, wB, wk, wB1]
  have hlen := digs_64 hB2 ha
  refine LoopW_of (fun n ts' m' => ∃ (u : Nat) (t : List UInt8) (cs : List Value), u = n ∧ u ≤ a ∧ digs B a = digs B u ++ t ∧ Old m m' ∧ m'.get i = .own cs 136 ∧ cs.length = 65 ∧ cs.drop (65 - t.length) = t.map byteV ∧
      ts' 1 = .int .u64 (u : Int) ∧ ts' 3 = .bool neg ∧ ts' 4 = .bool false ∧ ts' 10 = .slice none 0 0 ∧ ts' 12 = .pointer (some ⟨i, 0, none⟩) ∧ ts' 13 = .int .i64 ((65 - t.length : Nat) : Int) ∧ ts' 14 = .int .u64 (k : Int) ∧ ts' 15 = .int .u64 (B : Int) ∧ ts' 16 = .int .u64 ((B : Int) - 1)) a ?_ ?_
  · exact ⟨a, [], zs, rfl, Nat.le_refl _, by simp, ho, hz, hzl, by simp [hzl], by simp [t1], by simp [t3], by simp [t4], by simp [t10], by simp [t12], by simp [t13], by simp, by simp, by simp⟩
  · rintro n ts' m' K ⟨u, t, cs, rfl, hua, hd, o', g', hl, hdr, s1, s3, s4, s10, s12, s13, s14, s15, s16⟩ hK
    have hdl := congrArg List.length hd
    simp only [List.length_append] at hdl
    have hpos := digs_pos B u
    have htl : t.length < 65 := by omega
    have eI : ((65 - t.length : Nat) : Int) - 1 = ((65 - t.length - 1 : Nat) : Int) := by omega
    have wI : IntKind.i64.wrap (((65 - t.length : Nat) : Int) - 1) = ((65 - t.length - 1 : Nat) : Int) := by rw [eI]; exact w64 (by omega)
    have hin : (0 : Int) ≤ ((65 - t.length - 1 : Nat) : Int) ∧ ((65 - t.length - 1 : Nat) : Int) < 65 := by omega
    have hu64 : u < 18446744073709551616 := by omega
    generalize hJ : 65 - t.length - 1 = J at *
    have hmod : u % B < 36 := Nat.lt_of_lt_of_le (Nat.mod_lt _ (by omega)) (by omega)
    have kA : dBin .and (.int .u64 (u : Int)) (.int .u64 ((B : Int) - 1)) = some (.int .u64 ((u % B : Nat) : Int)) := by
      have := dAnd (u := u) (k := k) hu64 (by omega) (z := (B : Int) - 1) (by rw [hB]; have : 0 < 2 ^ k := Nat.pow_pos (by omega); omega)
      rw [← hB] at this; exact this
    have kS : dBin .shr (.int .u64 (u : Int)) (.int .u64 (k : Int)) = some (.int .u64 ((u / B : Nat) : Int)) := by
      have := dShr (u := u) (k := k) (by omega) (z := (k : Int)) rfl
      rw [← hB] at this; exact this
    have kX := digitsS_at ⟨u % B, hmod⟩
    simp only [digitsS] at kX
    have m0 : (0 : Int) ≤ ((u % B : Nat) : Int) := by omega
    have hcoe : (((u % B : Nat) : Int)).toNat = u % B := Int.toNat_natCast _
    have hJl : J + 1 ≤ cs.length := by omega
    simp -implicitDefEqProofs (disch := first | assumption | (simp only [wnA]; done) | (simp only [wnA]; omega) | omega | fail) [rc51_1, wkA, retV, stabOk, dC, ev, fillD, pickCells, putAt, bnd, slD, List.getElem?_cons_zero, List.getElem?_cons_succ, dR.eq_20, Mem.cell, Mem.row, wmA, s1, s15]
    by_cases hBu : B ≤ u
    · generalize hM : u % B = M at *
      simp -implicitDefEqProofs (disch := first | assumption | (simp only [wnA]; done) | (simp only [wnA]; omega) | omega | fail) [rc51_0, wkA, retV, stabOk, dC, ev, fillD, pickCells, putAt, bnd, slD, List.getElem?_cons_zero, List.getElem?_cons_succ, dR.eq_20, Mem.cell, Mem.row, wmA, s1, s12, s13, s14, s15, s16, hBu, wI, kA, kS, kX, m0, hin]
      refine SK_st (i := i) (o := J) (by simp [wkA, retV, stabOk, dC, ev, fillD, pickCells, putAt, bnd, slD, List.getElem?_cons_zero, List.getElem?_cons_succ, dR.eq_20]) (e := 136) g' (by omega) (by simp [wkA, retV, stabOk, dC, ev, fillD, pickCells, putAt, bnd, slD, List.getElem?_cons_zero, List.getElem?_cons_succ, dR.eq_20]) (by simp [wkA, retV, stabOk, dC, ev, fillD, pickCells, putAt, bnd, slD, List.getElem?_cons_zero, List.getElem?_cons_succ, dR.eq_20, oneC]) ?_
      simp -implicitDefEqProofs (disch := first | assumption | (simp only [wnA]; done) | (simp only [wnA]; omega) | omega | fail) [wkA, retV, stabOk, dC, ev, fillD, pickCells, putAt, bnd, slD, List.getElem?_cons_zero, List.getElem?_cons_succ, dR.eq_20, Mem.cell, Mem.row, wmA, s1, s14, kS]
      have hpa := putAt_ahead (c := digC M) hl htl hdr
      rw [hJ] at hpa
      have hpe : putAt cs J [.int .u8 (digC M).toNat] = cs.take J ++ .int .u8 (digC M).toNat :: cs.drop (J + 1) := by simp [putAt]
      rw [← hpe]
      refine hK (u / B) _ _ (Nat.div_lt_self (by omega) (by omega)) ⟨u / B, digC M :: t, _, rfl, Nat.le_trans (Nat.div_le_self _ _) hua, ?_, o'.set hi _, by simp, hpa.1, hpa.2, by simp, by simp [s3], by simp [s4], by simp [s10], by simp [s12], ?_, by simp [s14], by simp [s15], by simp [s16]⟩
      · rw [hd, digs_ge (by omega) hBu, hM]; simp
      · have : 65 - (digC M :: t).length = J := by simp; omega
        rw [this]; simp
    · have hub : u < 36 := by omega
      have kY := digitsS_at ⟨u, hub⟩
      simp only [digitsS] at kY
      have m1' : (0 : Int) ≤ (u : Int) := by omega
      simp -implicitDefEqProofs (disch := first | assumption | (simp only [wnA]; done) | (simp only [wnA]; omega) | omega | fail) [rc51_2, wkA, retV, stabOk, dC, ev, fillD, pickCells, putAt, bnd, slD, List.getElem?_cons_zero, List.getElem?_cons_succ, dR.eq_20, Mem.cell, Mem.row, wmA, s1, s12, s13, s14, s15, s16, hBu, wI, kY, m1', hin]
      refine SK_st (i := i) (o := J) (by simp [wkA, retV, stabOk, dC, ev, fillD, pickCells, putAt, bnd, slD, List.getElem?_cons_zero, List.getElem?_cons_succ, dR.eq_20]) (e := 136) g' (by omega) (by simp [wkA, retV, stabOk, dC, ev, fillD, pickCells, putAt, bnd, slD, List.getElem?_cons_zero, List.getElem?_cons_succ, dR.eq_20]) (by simp [wkA, retV, stabOk, dC, ev, fillD, pickCells, putAt, bnd, slD, List.getElem?_cons_zero, List.getElem?_cons_succ, dR.eq_20, oneC]) ?_
      have hpa := putAt_ahead (c := digC u) hl htl hdr
      rw [hJ] at hpa
      have hpe : putAt cs J [.int .u8 (digC u).toNat] = cs.take J ++ .int .u8 (digC u).toNat :: cs.drop (J + 1) := by simp [putAt]
      have hfull : digs B a = digC u :: t := by rw [hd, digs_lt (by omega)]; simp
      simp -implicitDefEqProofs (disch := first | assumption | (simp only [wnA]; done) | (simp only [wnA]; omega) | omega | fail) [wkA, retV, stabOk, dC, ev, fillD, pickCells, putAt, bnd, slD, List.getElem?_cons_zero, List.getElem?_cons_succ, dR.eq_20, Mem.cell, Mem.row, wmA]
      rw [← hpe]
      obtain ⟨p1, p2⟩ := hpa
      generalize putAt cs J [.int .u8 (digC u).toNat] = cs2 at *
      rw [hfull] at hlen hq
      have hJ2 : 65 - (digC u :: t).length = J := by simp; omega
      have hlen2 : t.length + 1 ≤ 22 := by simpa using hlen
      cases neg with
      | false =>
        have eL : (0 : Int) ≤ (J : Int) ∧ (J : Int) ≤ 65 := by omega
        have eJ0 : J ≠ 0 := by omega
        have eJ65 : J ≠ 65 := by omega
        have hrow : (cs2.drop J).take (65 - J) = (digC u :: t).map byteV := by rw [← hJ2, p2]; exact List.take_of_length_le (by simp; omega)
        simp -implicitDefEqProofs (disch := first | assumption | (simp only [wnA]; done) | (simp only [wnA]; omega) | omega | fail) [rc51_8, rc51_7, rc51_6, wkA, retV, stabOk, dC, ev, fillD, pickCells, putAt, bnd, slD, List.getElem?_cons_zero, List.getElem?_cons_succ, dR.eq_20, Mem.cell, Mem.row, wmA, s3, s4, s10, s12, p1, eL]
        rw [bstr_tail (e := 136) (t := digC u :: t) (by simp) p1 hJ2 (by simp; omega) p2]
        simp -implicitDefEqProofs (disch := first | assumption | (simp only [wnA]; done) | (simp only [wnA]; omega) | omega | fail) [wkA, retV, stabOk, dC, ev, fillD, pickCells, putAt, bnd, slD, List.getElem?_cons_zero, List.getElem?_cons_succ, dR.eq_20, Mem.cell, Mem.row, wmA, s10]
        have := hq _ (o'.set hi (.own cs2 136))
        simpa [sgn] using this
      | true =>
        have hlt2 : (digC u :: t).length < 65 := by simp; omega
        have eJ1 : (J : Int) - 1 = ((J - 1 : Nat) : Int) := by omega
        have wJ : IntKind.i64.wrap ((J : Int) - 1) = ((J - 1 : Nat) : Int) := by rw [eJ1]; exact w64 (by omega)
        have hin2 : (0 : Int) ≤ ((J - 1 : Nat) : Int) ∧ ((J - 1 : Nat) : Int) < 65 := by omega
        have hp3 := putAt_ahead (c := 45) p1 hlt2 p2
        rw [hJ2] at hp3
        obtain ⟨p3, p4⟩ := hp3
        generalize hK2 : J - 1 = J3 at *
        have hpe3 : putAt cs2 J3 [.int .u8 (45 : UInt8).toNat] = cs2.take J3 ++ .int .u8 45 :: cs2.drop (J3 + 1) := by simp [putAt]
        simp -implicitDefEqProofs (disch := first | assumption | (simp only [wnA]; done) | (simp only [wnA]; omega) | omega | fail) [rc51_8, wkA, retV, stabOk, dC, ev, fillD, pickCells, putAt, bnd, slD, List.getElem?_cons_zero, List.getElem?_cons_succ, dR.eq_20, Mem.cell, Mem.row, wmA, s3, s4, s10, s12, wJ, hin2]
        refine SK_st (i := i) (o := J3) (by simp [wkA, retV, stabOk, dC, ev, fillD, pickCells, putAt, bnd, slD, List.getElem?_cons_zero, List.getElem?_cons_succ, dR.eq_20]) (e := 136) (cs := cs2) (by simp) (by omega) (by simp [wkA, retV, stabOk, dC, ev, fillD, pickCells, putAt, bnd, slD, List.getElem?_cons_zero, List.getElem?_cons_succ, dR.eq_20]) (by simp [wkA, retV, stabOk, dC, ev, fillD, pickCells, putAt, bnd, slD, List.getElem?_cons_zero, List.getElem?_cons_succ, dR.eq_20, oneC]) ?_
        simp -implicitDefEqProofs (disch := first | assumption | (simp only [wnA]; done) | (simp only [wnA]; omega) | omega | fail) [wkA, retV, stabOk, dC, ev, fillD, pickCells, putAt, bnd, slD, List.getElem?_cons_zero, List.getElem?_cons_succ, dR.eq_20, Mem.cell, Mem.row, wmA]
        rw [← hpe3]
        generalize putAt cs2 J3 [.int .u8 (45 : UInt8).toNat] = cs4 at *
        have eL : (0 : Int) ≤ (J3 : Int) ∧ (J3 : Int) ≤ 65 := by omega
        have eJ0 : J3 ≠ 0 := by omega
        have eJ65 : J3 ≠ 65 := by omega
        have hJ4 : 65 - (45 :: digC u :: t).length = J3 := by simp; omega
        simp -implicitDefEqProofs (disch := first | assumption | (simp only [wnA]; done) | (simp only [wnA]; omega) | omega | fail) [rc51_7, rc51_6, wkA, retV, stabOk, dC, ev, fillD, pickCells, putAt, bnd, slD, List.getElem?_cons_zero, List.getElem?_cons_succ, dR.eq_20, Mem.cell, Mem.row, wmA, s3, s4, s10, s12, p3, eL]
        rw [bstr_tail (e := 136) (t := 45 :: digC u :: t) (by simp) p3 hJ4 (by simp; omega) p4]
        simp -implicitDefEqProofs (disch := first | assumption | (simp only [wnA]; done) | (simp only [wnA]; omega) | omega | fail) [wkA, retV, stabOk, dC, ev, fillD, pickCells, putAt, bnd, slD, List.getElem?_cons_zero, List.getElem?_cons_succ, dR.eq_20, Mem.cell, Mem.row, wmA, s10]
        have := hq _ ((o'.set hi (.own cs2 136)).set hi (.own cs4 136))
        simpa [sgn] using this

theorem c_fmtBits {w0 : World} {m : Mem} {B k a : Nat} {u : Int} {neg : Bool} {Q : Value → Mem → Prop} (hp : Part L0 m) (hB : B = 2 ^ k) (hk : 3 ≤ k ∧ k ≤ 5) (hne : B ≠ 10) (ha : a < 18446744073709551616)
    (hu : u = if neg then IntKind.u64.wrap (0 - (a : Int)) else (a : Int))
    (h1 : outIs (.bool true) (callE tab (xCall xs) Tryd.prog 50 65 [.int .i64 (B : Int)] L0) = true)
    (h2 : outIs (.int .i64 (k : Int)) (callE tab (xCall xs) Tryd.prog 50 66 [.int .u64 (B : Int)] L0) = true)
    (hq : ∀ m', Old m m' → Q (.tuple ⟨[.slice none 0 0, .string ⟨⟨sgn neg ++ digs B a⟩⟩]⟩) m') :
    AbC Tryd.prog w0 51 [.slice none 0 0, .int .u64 u, .int .i64 (B : Int), .bool neg, .bool false] m Q := by
  refine AbC_fn ok51 (by simp) ?_
  have hB2 : 8 ≤ B := by rw [hB]; calc 8 = 2 ^ 3 := rfl
    _ ≤ 2 ^ k := Nat.pow_le_pow_right (by omega) hk.1
  have hB3 : B ≤ 32 := by rw [hB]; calc 2 ^ k ≤ 2 ^ 5 := Nat.pow_le_pow_right (by omega) hk.2
    _ = 32 := rfl
  have f1 : (2 : Int) ≤ B := by omega
  have f2 : (B : Int) ≠ 10 := by omega
  have f3 : (B : Int) ≤ 36 := by omega
  simp -implicitDefEqProofs (disch := first | assumption | (simp only [wnA]; done) | (simp only [wnA]; omega) | omega | fail) [rc51, ro51, wkA, retV, stabOk, dC, ev, fillD, pickCells, putAt, bnd, slD, List.getElem?_cons_zero, List.getElem?_cons_succ, dR.eq_20, Mem.cell, Mem.row, wmA, ltF f1, beqF f2, gtF f3]
  have ho : ∀ E, Old m (m.push E) := fun E => (Old.refl m).push _
  cases neg with
  | false =>
    have hu' : u = (a : Int) := by simpa using hu
    subst hu'
    simp -implicitDefEqProofs (disch := first | assumption | (simp only [wnA]; done) | (simp only [wnA]; omega) | omega | fail) [rc51_10, wkA, retV, stabOk, dC, ev, fillD, pickCells, putAt, bnd, slD, List.getElem?_cons_zero, List.getElem?_cons_succ, dR.eq_20, Mem.cell, Mem.row, wmA]
    exact c_fmtTail (k := k) ((ho _).part hp) (ho _) (Nat.le_refl m.next) (by simp) (by simp -implicitDefEqProofs (disch := first | assumption | (simp only [wnA]; done) | (simp only [wnA]; omega) | omega | fail) [Mem.cell, Mem.row, wmA]; rfl) (by simp) hB hk hB2 hB3 ha (by simp [frA_at]) (by simp [frA_at]) (by simp [frA_at]) (by simp [frA_at]) (by simp) (by simp) (by simp) h1 h2 hq
  | true =>
    have hu' : u = IntKind.u64.wrap (0 - (a : Int)) := by simpa using hu
    have hw : IntKind.u64.wrap (0 - u) = (a : Int) := by
      subst hu'
      simp only [IntKind.wrap, IntKind.bits, IntKind.signed]
      simp
      omega
    have hw' : IntKind.u64.wrap (-u) = (a : Int) := by simpa using hw
    simp -implicitDefEqProofs (disch := first | assumption | (simp only [wnA]; done) | (simp only [wnA]; omega) | omega | fail) [rc51_10, wkA, retV, stabOk, dC, ev, fillD, pickCells, putAt, bnd, slD, List.getElem?_cons_zero, List.getElem?_cons_succ, dR.eq_20, Mem.cell, Mem.row, wmA, hw, hw']
    exact c_fmtTail (k := k) ((ho _).part hp) (ho _) (Nat.le_refl m.next) (by simp) (by simp -implicitDefEqProofs (disch := first | assumption | (simp only [wnA]; done) | (simp only [wnA]; omega) | omega | fail) [Mem.cell, Mem.row, wmA]; rfl) (by simp) hB hk hB2 hB3 ha (by simp [frA_at]) (by simp [frA_at]) (by simp [frA_at]) (by simp [frA_at]) (by simp) (by simp) (by simp) h1 h2 hq
end Go.Proofs.YtgfkjldohilmkaaDoor.Ab
