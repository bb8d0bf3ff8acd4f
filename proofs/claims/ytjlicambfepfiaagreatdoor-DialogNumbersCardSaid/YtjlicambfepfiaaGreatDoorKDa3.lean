/- Parts of a proof, put together: The resolved codes of the functions that are walked, and that the program has them. -/
import Derived.Test.YtjlicambfepfiaaGreatDoorKDa2
import Derived.Test.YtjlicambfepfiaaGreatDoorProg
import Derived.KernelRfl
set_option maxHeartbeats 4000000
namespace Go.Proofs.YtjlicambfepfiaaGreatDoor.Ab
open Go Go.RowKit
abbrev zt (n : Nat) : Operand := .tmp n
abbrev zi (n : Int) : Operand := .const (.int .i64 n)
abbrev zr (n : Nat) (x : RO) : Sp := ⟨some n, none, .r x, []⟩
abbrev za (n : Nat) (x : Operand) : Sp := ⟨some n, none, .a x, []⟩
abbrev zf (n : Nat) (x : EO) : Sp := ⟨some n, none, .e x, []⟩
abbrev ze (x : EO) : Sp := ⟨none, none, .e x, []⟩
abbrev zg (n c : Nat) (b : Bool) (x : RO) : Sp := ⟨some n, some (c, b), .r x, []⟩
abbrev zc (n f : Nat) (l : List Operand) : Sp := ⟨some n, none, .c (.fn f l), []⟩
/-! gosem.cut.init -/

def rc2 : RC := (.run [zc 0 1 []])
def ce2 : List (Nat × List Nat × List Nat) := []
def ro2 : List RO := []
theorem ok2 : okFn Tryz.prog 2 1 ce2 = some (rc2, ro2) := by kernel_rfl
/-! lifeline/lifelinelaw17.DialogFind -/
def rc3_0 : RC := (.seq (.block 1 (.seq (.run [zr 34 (.ia 1 (zt 30) (zt 32)), zr 35 (.ld (zt 34)), za 9 (zt 35)])
  (.seq (.run [zr 36 (.mv (zt 7)), zr 37 (.mv (zt 9)), zc 38 14 [(zt 36), (zt 37)], zr 39 (.mv (zt 7)), zr 40 (.mv (zt 9)), zc 41 15 [(zt 39), (zt 40)], zr 42 (.bin .neq (zt 38) (zt 41))])
  (.cond (zt 42)
  (.seq (.run [za 6 (.const (.bool false))])
  .ret)
  .skip))))
  (.run [zr 43 (.bin .add (zt 32) (zi 1)), zr 32 (.mv (zt 43))]))
def rc3_1 : RC := (.seq (.run [zr 33 (.bin .lss (zt 32) (zt 31))])
  (.seq (.cond (zt 33)
  .skip
  (.exit 0))
  rc3_0))
def rc3_2 : RC := (.seq (.run [za 6 (.const (.bool true))])
  .ret)
def rc3_3 : RC := (.seq (.seq (.run [zr 29 (.mv (zt 1)), zf 30 (.bsl 9 1 4 [(.string ⟨#[]⟩), (.string ⟨#[]⟩), (.string ⟨#[]⟩), (.string ⟨#[]⟩)] [(0, 1, (zt 29)), (1, 1, (.const (.string ⟨#[115, 97]⟩))), (2, 1, (.const (.string ⟨#[115, 99]⟩))), (3, 1, (.const (.string ⟨#[]⟩)))]), zr 31 (.lenl (zt 30)), zr 32 (.mv (zi 0))])
  (.block 0 (.loop rc3_1)))
  rc3_2)
def rc3_4 : RC := (.seq (.run [zr 12 (.mv (zt 0)), zc 13 13 [(zt 12)], za 7 (zt 13)])
  (.seq (.seq (.run [zr 14 (.mv (zt 7)), zr 15 (.lenl (zt 14)), zr 16 (.bin .gtr (zt 15) (zi 1))])
  (.cond (zt 16)
  (.run [zr 17 (.mv (zt 7)), zr 18 (.mv (zt 2)), zr 19 (.cvi .i64 (zt 18)), zr 20 (.mv (zt 7)), zr 21 (.lenl (zt 20)), zr 22 (.bin .rem (zt 19) (zt 21)), zr 23 (.mv (zt 7)), zr 24 (.ia 7 (zt 23) (zi 0)), zr 25 (.fa 0 (zt 24)), zr 26 (.ld (zt 25)), zr 27 (.ia 7 (zt 17) (zt 22)), zr 28 (.fa 0 (zt 27)), ze (.st 1 (zt 28) (zt 26))])
  .skip))
  rc3_3))
def rc3 : RC := (.seq (.run [za 6 (.const (.bool false))])
  (.seq (.seq (.run [zc 10 12 [], zr 11 (.not (zt 10))])
  (.cond (zt 11)
  (.seq (.run [za 6 (.const (.bool false))])
  .ret)
  .skip))
  rc3_4))
def ce3 : List (Nat × List Nat × List Nat) := [(5, [0, 1, 2, 3, 4, 5, 6, 7, 8, 9, 10, 11, 12], [0, 0, 2, 0, 8, 30, 0, 64, 192, 448, 1023, 2047, 4095])]
def ro3 : List RO := [(.mv (zt 6))]
theorem ok3 : okFn Tryz.prog 3 44 ce3 = some (rc3, ro3) := by kernel_rfl
/-! lifeline/lifelinelaw17.DialogNumbers -/
def rc4_0 : RC := (.seq (.run [zr 76 (.mv (zt 9)), zr 77 (.eq false (.iface []) (zt 76) (.const .nilIface)), zr 78 (.mv (zt 77)), zg 79 78 true (.mv (zt 8)), zg 80 78 true (.lenl (zt 79)), zg 81 78 true (.bin .eql (zt 80) (zi 2)), zr 82 (.pick (zt 78) (zt 81) (.const (.bool false))), zr 83 (.mv (zt 82)), zg 84 83 true (.mv (zt 8)), zg 85 83 true (.ia 7 (zt 84) (zi 0)), zg 86 83 true (.fa 4 (zt 85)), zg 87 83 true (.ld (zt 86)), zg 88 83 true (.mv (zt 10)), zg 89 83 true (.bin .eql (zt 87) (zt 88)), zr 90 (.pick (zt 83) (zt 89) (.const (.bool false))), zr 91 (.mv (zt 90)), zg 92 91 true (.mv (zt 8)), zg 93 91 true (.ia 7 (zt 92) (zi 1)), zg 94 91 true (.fa 4 (zt 93)), zg 95 91 true (.ld (zt 94)), zg 96 91 true (.mv (zt 11)), zg 97 91 true (.bin .eql (zt 95) (zt 96)), zr 98 (.pick (zt 91) (zt 97) (.const (.bool false))), zr 99 (.mv (zt 98)), zg 100 99 true (.mv (zt 8)), zg 101 99 true (.ia 7 (zt 100) (zi 1)), zg 102 99 true (.fa 1 (zt 101)), zg 103 99 true (.ld (zt 102)), zg 104 99 true (.bin .eql (zt 103) (zi 3)), zr 105 (.pick (zt 99) (zt 104) (.const (.bool false))), za 4 (zt 105)])
  .ret)
def rc4_1 : RC := (.seq (.seq (.run [zr 55 (.mv (zt 11)), zr 56 (.bin .lss (zt 55) (zi 1)), zr 57 (.mv (zt 56)), zg 58 57 false (.mv (zt 11)), zg 59 57 false (.bin .gtr (zt 58) (zi 9)), zr 60 (.pick (zt 57) (.const (.bool true)) (zt 59))])
  (.cond (zt 60)
  (.seq (.run [zr 61 (.mv (zt 9)), zc 62 19 [(zt 61)], zr 63 (.bin .eql (zt 62) (zi 5)), zr 64 (.mv (zt 63)), zg 65 64 true (.mv (zt 9)), ⟨(some 66), (some (64, true)), (.c (.fn 20 [(zt 65)])), []⟩, zg 67 64 true (.mv (zt 12)), zg 68 64 true (.mv (zt 5)), zg 69 64 true (.mv (zt 0)), ⟨(some 70), (some (64, true)), (.c (.val (zt 68) [(zt 69)])), []⟩, zg 71 64 true (.lens (zt 70)), zg 72 64 true (.bin .add (zt 67) (zt 71)), zg 73 64 true (.bin .add (zt 72) (zi 11)), zg 74 64 true (.bin .eql (zt 66) (zt 73)), zr 75 (.pick (zt 64) (zt 74) (.const (.bool false))), za 4 (zt 75)])
  .ret)
  .skip))
  rc4_0)
def rc4_2 : RC := (.seq (.run [za 5 (.func 16)])
  (.seq (.run [za 6 (.const (.string ⟨#[97, 58, 32, 101, 120, 112, 101, 99, 116, 32, 34, 120, 34, 32, 103, 111, 32, 97, 32, 97, 102, 116, 101, 114, 32]⟩))])
  (.seq (.run [zr 15 (.mv (zt 6)), zr 16 (.mv (zt 5)), zr 17 (.mv (zt 0)), ⟨(some 18), none, (.c (.val (zt 16) [(zt 17)])), []⟩, zr 19 (.bin .add (zt 15) (zt 18)), zr 20 (.bin .add (zt 19) (.const (.string ⟨#[32, 103, 111, 32, 97, 59, 32, 116, 114, 121, 32]⟩))), zr 21 (.mv (zt 5)), zr 22 (.mv (zt 1)), zr 23 (.bin .rem (zt 22) (.const (.int .u8 15))), ⟨(some 24), none, (.c (.val (zt 21) [(zt 23)])), []⟩, zr 25 (.bin .add (zt 20) (zt 24)), zr 26 (.bin .add (zt 25) (.const (.string ⟨#[32, 103, 111, 32, 97, 59]⟩))), za 7 (zt 26)])
  (.seq (.run [zr 28 (.mv (zt 7)), zc 29 18 [(zt 28)], zr 27 (.mv (zt 29)), zr 30 (.ext 0 (zt 27)), zr 31 (.ext 1 (zt 27)), za 8 (zt 30), za 9 (zt 31)])
  (.seq (.run [zr 32 (.mv (zt 0)), zr 33 (.bin .rem (zt 32) (.const (.int .u8 120))), zr 34 (.cvi .i64 (zt 33)), zr 35 (.mv (zt 1)), zr 36 (.bin .rem (zt 35) (.const (.int .u8 15))), zr 37 (.cvi .i64 (zt 36)), za 10 (zt 34), za 11 (zt 37)])
  (.seq (.run [zr 38 (.mv (zt 6)), zr 39 (.lens (zt 38)), za 12 (zt 39)])
  (.seq (.seq (.run [zr 40 (.mv (zt 10)), zr 41 (.bin .lss (zt 40) (zi 1)), zr 42 (.mv (zt 41)), zg 43 42 false (.mv (zt 10)), zg 44 42 false (.bin .gtr (zt 43) (zi 99)), zr 45 (.pick (zt 42) (.const (.bool true)) (zt 44))])
  (.cond (zt 45)
  (.seq (.run [zr 46 (.mv (zt 9)), zc 47 19 [(zt 46)], zr 48 (.bin .eql (zt 47) (zi 5)), zr 49 (.mv (zt 48)), zg 50 49 true (.mv (zt 9)), ⟨(some 51), (some (49, true)), (.c (.fn 20 [(zt 50)])), []⟩, zg 52 49 true (.mv (zt 12)), zg 53 49 true (.bin .eql (zt 51) (zt 52)), zr 54 (.pick (zt 49) (zt 53) (.const (.bool false))), za 4 (zt 54)])
  .ret)
  .skip))
  rc4_1)))))))
def rc4 : RC := (.seq (.run [za 4 (.const (.bool false))])
  (.seq (.seq (.run [zc 13 12 [], zr 14 (.not (zt 13))])
  (.cond (zt 14)
  (.seq (.run [za 4 (.const (.bool false))])
  .ret)
  .skip))
  rc4_2))
def ce4 : List (Nat × List Nat × List Nat) := []
def ro4 : List RO := [(.mv (zt 4))]
theorem ok4 : okFn Tryz.prog 4 106 ce4 = some (rc4, ro4) := by kernel_rfl
/-! lifeline/lifelinelaw17.DialogBack -/
def rc5_0 : RC := (.seq (.run [zr 27 (.mv (zt 4)), zc 28 18 [(zt 27)], zr 26 (.mv (zt 28)), zr 29 (.ext 0 (zt 26)), zr 30 (.ext 1 (zt 26)), za 5 (zt 29), za 6 (zt 30)])
  (.seq (.run [zr 31 (.mv (zt 6)), zr 32 (.eq false (.iface []) (zt 31) (.const .nilIface)), zr 33 (.mv (zt 32)), zg 34 33 true (.mv (zt 5)), zg 35 33 true (.mv (zt 3)), ⟨(some 36), (some (33, true)), (.c (.fn 23 [(zt 34), (zt 35)])), []⟩, zr 37 (.pick (zt 33) (zt 36) (.const (.bool false))), za 2 (zt 37)])
  .ret))
def rc5_1 : RC := (.seq (.run [zr 9 (.mv (zt 0)), zc 10 13 [(zt 9)], za 3 (zt 10)])
  (.seq (.run [zr 11 (.mv (zt 3)), zc 12 21 [(zt 11)], za 4 (zt 12)])
  (.seq (.seq (.run [zr 13 (.mv (zt 4)), zr 14 (.mv (zt 3)), zc 15 22 [(zt 14)], zr 16 (.bin .neq (zt 13) (zt 15)), zr 17 (.mv (zt 16)), zg 18 17 false (.mv (zt 4)), zg 19 17 false (.lens (zt 18)), zg 20 17 false (.bin .gtr (zt 19) (zi 4096)), zr 21 (.pick (zt 17) (.const (.bool true)) (zt 20))])
  (.cond (zt 21)
  (.seq (.run [zr 22 (.mv (zt 4)), zr 23 (.mv (zt 3)), zc 24 22 [(zt 23)], zr 25 (.bin .eql (zt 22) (zt 24)), za 2 (zt 25)])
  .ret)
  .skip))
  rc5_0)))
def rc5 : RC := (.seq (.run [za 2 (.const (.bool false))])
  (.seq (.seq (.run [zc 7 12 [], zr 8 (.not (zt 7))])
  (.cond (zt 8)
  (.seq (.run [za 2 (.const (.bool false))])
  .ret)
  .skip))
  rc5_1))
def ce5 : List (Nat × List Nat × List Nat) := []
def ro5 : List RO := [(.mv (zt 2))]
theorem ok5 : okFn Tryz.prog 5 38 ce5 = some (rc5, ro5) := by kernel_rfl
/-! lifeline/lifelinelaw17.DialogText -/
def rc6_0 : RC := (.seq (.block 1 (.seq (.run [zr 11 (.ia 7 (zt 7) (zt 9)), zr 12 (.ldn 7 (zt 11)), zf 4 (.al [(.string ⟨#[]⟩), (.int .i64 0), (.string ⟨#[]⟩), (.slice none 0 0), (.int .i64 0), (.string ⟨#[]⟩), (.int .i64 0)] 29), ze (.st 7 (zt 4) (zt 12))])
  (.seq (.run [zr 13 (.fa 4 (zt 4)), zr 14 (.ld (zt 13)), zr 15 (.bin .lss (zt 14) (zi (-1099511627776)))])
  (.cond (zt 15)
  (.seq (.run [za 2 (.const (.bool true))])
  .ret)
  .skip))))
  (.run [zr 16 (.bin .add (zt 9) (zi 1)), zr 9 (.mv (zt 16))]))
def rc6_1 : RC := (.seq (.run [zr 10 (.bin .lss (zt 9) (zt 8))])
  (.seq (.cond (zt 10)
  .skip
  (.exit 0))
  rc6_0))
def rc6_2 : RC := (.seq (.run [zr 17 (.mv (zt 0)), zc 18 21 [(zt 17)], zr 19 (.mv (zt 0)), zc 20 22 [(zt 19)], zr 21 (.bin .eql (zt 18) (zt 20)), za 2 (zt 21)])
  .ret)
def rc6_3 : RC := (.seq (.seq (.run [zr 7 (.mv (zt 0)), zr 8 (.lenl (zt 7)), zr 9 (.mv (zi 0))])
  (.block 0 (.loop rc6_1)))
  rc6_2)
def rc6 : RC := (.seq (.run [za 2 (.const (.bool false))])
  (.seq (.seq (.run [zc 5 12 [], zr 6 (.not (zt 5))])
  (.cond (zt 6)
  (.seq (.run [za 2 (.const (.bool false))])
  .ret)
  .skip))
  rc6_3))
def ce6 : List (Nat × List Nat × List Nat) := []
def ro6 : List RO := [(.mv (zt 2))]
theorem ok6 : okFn Tryz.prog 6 22 ce6 = some (rc6, ro6) := by kernel_rfl
/-! lifeline/lifelinelaw17.DialogAgain -/
def rc7_0 : RC := (.seq (.run [zr 54 (.mv (zt 3)), zc 55 21 [(zt 54)], za 6 (zt 55)])
  (.seq (.run [zr 57 (.mv (zt 6)), zc 58 18 [(zt 57)], zr 56 (.mv (zt 58)), zr 59 (.ext 0 (zt 56)), zr 60 (.ext 1 (zt 56)), za 7 (zt 59), za 8 (zt 60)])
  (.seq (.run [zr 61 (.mv (zt 6)), zr 62 (.lens (zt 61)), zr 63 (.bin .gtr (zt 62) (zi 4096)), zr 64 (.mv (zt 63)), zg 65 64 false (.mv (zt 8)), zg 66 64 false (.eq false (.iface []) (zt 65) (.const .nilIface)), zg 67 64 false (.mv (zt 66)), zg 68 67 true (.mv (zt 7)), zg 69 67 true (.mv (zt 3)), ⟨(some 70), (some (67, true)), (.c (.fn 23 [(zt 68), (zt 69)])), []⟩, zg 71 64 false (.pick (zt 67) (zt 70) (.const (.bool false))), zr 72 (.pick (zt 64) (.const (.bool true)) (zt 71)), za 2 (zt 72)])
  .ret)))
def rc7_1 : RC := (.seq (.run [zr 15 (.mv (zt 0)), zc 16 18 [(zt 15)], zr 14 (.mv (zt 16)), zr 17 (.ext 0 (zt 14)), zr 18 (.ext 1 (zt 14)), za 3 (zt 17), za 4 (zt 18)])
  (.seq (.seq (.run [zr 19 (.mv (zt 4)), zr 20 (.eq true (.iface []) (zt 19) (.const .nilIface))])
  (.cond (zt 20)
  (.seq (.run [zr 21 (.mv (zt 4)), zc 22 19 [(zt 21)], za 5 (zt 22)])
  (.seq (.run [zr 23 (.mv (zt 5)), zr 24 (.bin .eql (zt 23) (zi 1)), zr 25 (.mv (zt 24)), zg 26 25 false (.mv (zt 5)), zg 27 25 false (.bin .eql (zt 26) (zi 2)), zr 28 (.pick (zt 25) (.const (.bool true)) (zt 27)), zr 29 (.mv (zt 28)), zg 30 29 false (.mv (zt 5)), zg 31 29 false (.bin .eql (zt 30) (zi 3)), zr 32 (.pick (zt 29) (.const (.bool true)) (zt 31)), zr 33 (.mv (zt 32)), zg 34 33 false (.mv (zt 5)), zg 35 33 false (.bin .eql (zt 34) (zi 5)), zr 36 (.pick (zt 33) (.const (.bool true)) (zt 35)), zr 37 (.mv (zt 36)), zg 38 37 true (.mv (zt 4)), ⟨(some 39), (some (37, true)), (.c (.fn 20 [(zt 38)])), []⟩, zg 40 37 true (.bin .geq (zt 39) (zi 0)), zr 41 (.pick (zt 37) (zt 40) (.const (.bool false))), zr 42 (.mv (zt 41)), zg 43 42 true (.mv (zt 4)), ⟨(some 44), (some (42, true)), (.c (.fn 20 [(zt 43)])), []⟩, zg 45 42 true (.mv (zt 0)), zg 46 42 true (.lens (zt 45)), zg 47 42 true (.bin .leq (zt 44) (zt 46)), zr 48 (.pick (zt 42) (zt 47) (.const (.bool false))), zr 49 (.mv (zt 48)), zg 50 49 true (.mv (zt 3)), zg 51 49 true (.lenl (zt 50)), zg 52 49 true (.bin .eql (zt 51) (zi 0)), zr 53 (.pick (zt 49) (zt 52) (.const (.bool false))), za 2 (zt 53)])
  .ret))
  .skip))
  rc7_0))
def rc7_2 : RC := (.seq (.seq (.run [zr 11 (.mv (zt 0)), zr 12 (.lens (zt 11)), zr 13 (.bin .gtr (zt 12) (zi 3000))])
  (.cond (zt 13)
  (.seq (.run [za 2 (.const (.bool true))])
  .ret)
  .skip))
  rc7_1)
def rc7 : RC := (.seq (.run [za 2 (.const (.bool false))])
  (.seq (.seq (.run [zc 9 12 [], zr 10 (.not (zt 9))])
  (.cond (zt 10)
  (.seq (.run [za 2 (.const (.bool false))])
  .ret)
  .skip))
  rc7_2))
def ce7 : List (Nat × List Nat × List Nat) := []
def ro7 : List RO := [(.mv (zt 2))]
theorem ok7 : okFn Tryz.prog 7 73 ce7 = some (rc7, ro7) := by kernel_rfl
/-! lifeline/lifelinelaw18.PlayTries -/
def rc8_0 : RC := (.seq (.block 1 (.seq (.seq (.run [zr 49 (.mv (zt 8)), zc 50 26 [(zt 49)], zr 51 (.bin .neq (zt 50) (zi 0))])
  (.cond (zt 51)
  (.seq (.run [za 4 (.const (.bool false))])
  .ret)
  .skip))
  (.run [zr 52 (.mv (zt 10)), zr 53 (.mv (zt 8)), zc 54 27 [(zt 53)], zr 55 (.b2s (zt 54)), zr 56 (.bin .add (zt 52) (zt 55)), za 10 (zt 56)])))
  (.run [zr 47 (.mv (zt 11)), zr 48 (.bin .add (zt 47) (zi 1)), za 11 (zt 48)]))
def rc8_1 : RC := (.seq (.seq (.run [zr 41 (.mv (zt 11)), zr 42 (.mv (zt 5)), zr 43 (.bin .add (zt 42) (zi 1)), zr 44 (.mv (zt 6)), zr 45 (.bin .mul (zt 43) (zt 44)), zr 46 (.bin .lss (zt 41) (zt 45))])
  (.cond (zt 46)
  .skip
  (.exit 0)))
  rc8_0)
def rc8_2 : RC := (.seq (.block 3 (.run [zr 62 (.mv (zt 12)), zr 63 (.bin .add (zt 62) (.const (.string ⟨#[120]⟩))), za 12 (zt 63)]))
  (.run [zr 60 (.mv (zt 13)), zr 61 (.bin .add (zt 60) (zi 1)), za 13 (zt 61)]))
def rc8_3 : RC := (.seq (.seq (.run [zr 57 (.mv (zt 13)), zr 58 (.mv (zt 5)), zr 59 (.bin .leq (zt 57) (zt 58))])
  (.cond (zt 59)
  .skip
  (.exit 2)))
  rc8_2)
def rc8_4 : RC := (.seq (.run [zr 64 (.mv (zt 8)), zc 65 26 [(zt 64)], zr 66 (.bin .eql (zt 65) (zi 2)), zr 67 (.mv (zt 66)), zg 68 67 true (.mv (zt 10)), zg 69 67 true (.mv (zt 12)), zg 70 67 true (.bin .eql (zt 68) (zt 69)), zr 71 (.pick (zt 67) (zt 70) (.const (.bool false))), zr 72 (.mv (zt 71)), zg 73 72 true (.mv (zt 8)), ⟨(some 74), (some (72, true)), (.c (.fn 28 [(zt 73)])), []⟩, zg 75 72 true (.bin .eql (zt 74) (zi 3)), zr 76 (.pick (zt 72) (zt 75) (.const (.bool false))), za 4 (zt 76)])
  .ret)
def rc8_5 : RC := (.seq (.run [za 12 (.const (.string ⟨#[]⟩))])
  (.seq (.seq (.run [za 13 (zi 0)])
  (.block 2 (.loop rc8_3)))
  rc8_4))
def rc8_6 : RC := (.seq (.run [zr 16 (.mv (zt 0)), zr 17 (.bin .rem (zt 16) (.const (.int .u8 9))), zr 18 (.cvi .i64 (zt 17)), zr 19 (.bin .add (zi 1) (zt 18)), zr 20 (.mv (zt 1)), zr 21 (.bin .rem (zt 20) (.const (.int .u8 9))), zr 22 (.cvi .i64 (zt 21)), zr 23 (.bin .add (zi 1) (zt 22)), za 5 (zt 19), za 6 (zt 23)])
  (.seq (.run [zr 24 (.bld [(.string ⟨#[]⟩), (.int .i64 0), (.string ⟨#[]⟩), (.slice none 0 0), (.int .i64 0), (.string ⟨#[]⟩), (.int .i64 0)] [(0, 1, (.const (.string ⟨#[97]⟩))), (1, 1, (zi 0)), (2, 1, (.const (.string ⟨#[120]⟩)))]), zr 25 (.bld [(.string ⟨#[]⟩), (.string ⟨#[]⟩)] [(0, 1, (.const (.string ⟨#[121]⟩))), (1, 1, (.const (.string ⟨#[98]⟩)))]), zf 26 (.bsl 49 2 1 [(.string ⟨#[]⟩), (.string ⟨#[]⟩)] [(0, 2, (zt 25))]), zr 27 (.mv (zt 6)), zr 28 (.bld [(.string ⟨#[]⟩), (.int .i64 0), (.string ⟨#[]⟩), (.slice none 0 0), (.int .i64 0), (.string ⟨#[]⟩), (.int .i64 0)] [(1, 1, (zi 1)), (3, 1, (zt 26)), (4, 1, (zt 27)), (5, 1, (.const (.string ⟨#[99]⟩)))]), zr 29 (.mv (zt 5)), zr 30 (.bld [(.string ⟨#[]⟩), (.int .i64 0), (.string ⟨#[]⟩), (.slice none 0 0), (.int .i64 0), (.string ⟨#[]⟩), (.int .i64 0)] [(0, 1, (.const (.string ⟨#[99]⟩))), (1, 1, (zi 3)), (4, 1, (zt 29)), (5, 1, (.const (.string ⟨#[97]⟩)))]), zr 31 (.bld [(.string ⟨#[]⟩), (.int .i64 0), (.string ⟨#[]⟩), (.slice none 0 0), (.int .i64 0), (.string ⟨#[]⟩), (.int .i64 0)] [(1, 1, (zi 5))]), zr 32 (.bld [(.string ⟨#[]⟩), (.int .i64 0), (.string ⟨#[]⟩), (.slice none 0 0), (.int .i64 0), (.string ⟨#[]⟩), (.int .i64 0)] [(0, 1, (.const (.string ⟨#[98]⟩))), (1, 1, (zi 4))]), zf 33 (.bsl 29 7 5 [(.string ⟨#[]⟩), (.int .i64 0), (.string ⟨#[]⟩), (.slice none 0 0), (.int .i64 0), (.string ⟨#[]⟩), (.int .i64 0), (.string ⟨#[]⟩), (.int .i64 0), (.string ⟨#[]⟩), (.slice none 0 0), (.int .i64 0), (.string ⟨#[]⟩), (.int .i64 0), (.string ⟨#[]⟩), (.int .i64 0), (.string ⟨#[]⟩), (.slice none 0 0), (.int .i64 0), (.string ⟨#[]⟩), (.int .i64 0), (.string ⟨#[]⟩), (.int .i64 0), (.string ⟨#[]⟩), (.slice none 0 0), (.int .i64 0), (.string ⟨#[]⟩), (.int .i64 0), (.string ⟨#[]⟩), (.int .i64 0), (.string ⟨#[]⟩), (.slice none 0 0), (.int .i64 0), (.string ⟨#[]⟩), (.int .i64 0)] [(0, 7, (zt 24)), (7, 7, (zt 28)), (14, 7, (zt 30)), (21, 7, (zt 31)), (28, 7, (zt 32))]), za 7 (zt 33)])
  (.seq (.run [zr 35 (.mv (zt 7)), zc 36 25 [(zt 35)], zr 34 (.mv (zt 36)), zr 37 (.ext 0 (zt 34)), zr 38 (.ext 1 (zt 34)), za 8 (zt 37), za 9 (zt 38)])
  (.seq (.run [zr 39 (.mv (zt 9)), zr 40 (.b2s (zt 39)), za 10 (zt 40)])
  (.seq (.seq (.run [za 11 (zi 0)])
  (.block 0 (.loop rc8_1)))
  rc8_5)))))
def rc8 : RC := (.seq (.run [za 4 (.const (.bool false))])
  (.seq (.seq (.run [zc 14 24 [], zr 15 (.not (zt 14))])
  (.cond (zt 15)
  (.seq (.run [za 4 (.const (.bool false))])
  .ret)
  .skip))
  rc8_6))
def ce8 : List (Nat × List Nat × List Nat) := []
def ro8 : List RO := [(.mv (zt 4))]
theorem ok8 : okFn Tryz.prog 8 77 ce8 = some (rc8, ro8) := by kernel_rfl
/-! lifeline/lifelinelaw18.PlayHears -/
def rc9_0 : RC := (.seq (.block 1 (.seq (.run [zr 45 (.mv (zt 8)), zr 46 (.mv (zt 6)), zr 47 (.mv (zt 11)), zr 48 (.ixs (zt 46) (zt 47)), zc 49 30 [(zt 45), (zt 48)]])
  (.seq (.run [zr 50 (.mv (zt 8)), zc 51 28 [(zt 50)], zr 52 (.bin .eql (zt 51) (zi 1)), zr 53 (.mv (zt 52)), zg 54 53 true (.mv (zt 10)), zg 55 53 true (.bin .lss (zt 54) (zi 0)), zr 56 (.pick (zt 53) (zt 55) (.const (.bool false)))])
  (.cond (zt 56)
  (.run [zr 57 (.mv (zt 11)), zr 58 (.bin .add (zt 57) (zi 1)), za 10 (zt 58)])
  .skip))))
  (.run [zr 43 (.mv (zt 11)), zr 44 (.bin .add (zt 43) (zi 1)), za 11 (zt 44)]))
def rc9_1 : RC := (.seq (.seq (.run [zr 39 (.mv (zt 11)), zr 40 (.mv (zt 6)), zr 41 (.lens (zt 40)), zr 42 (.bin .lss (zt 39) (zt 41))])
  (.cond (zt 42)
  .skip
  (.exit 0)))
  rc9_0)
def rc9_2 : RC := (.seq (.block 3 (.run [zr 91 (.mv (zt 15)), zr 92 (.mv (zt 6)), zr 93 (.mv (zt 17)), zr 94 (.ixs (zt 92) (zt 93)), zc 95 30 [(zt 91), (zt 94)]]))
  (.run [zr 89 (.mv (zt 17)), zr 90 (.bin .add (zt 89) (zi 1)), za 17 (zt 90)]))
def rc9_3 : RC := (.seq (.seq (.run [zr 86 (.mv (zt 17)), zr 87 (.mv (zt 10)), zr 88 (.bin .lss (zt 86) (zt 87))])
  (.cond (zt 88)
  .skip
  (.exit 2)))
  rc9_2)
def rc9_4 : RC := (.seq (.block 5 (.seq (.run [zr 102 (.mv (zt 12)), zr 103 (.mv (zt 14)), zr 104 (.mv (zt 18)), zr 105 (.ixs (zt 103) (zt 104)), zc 106 30 [(zt 102), (zt 105)]])
  (.run [zr 107 (.mv (zt 15)), zr 108 (.mv (zt 14)), zr 109 (.mv (zt 18)), zr 110 (.ixs (zt 108) (zt 109)), zc 111 30 [(zt 107), (zt 110)]])))
  (.run [zr 100 (.mv (zt 18)), zr 101 (.bin .add (zt 100) (zi 1)), za 18 (zt 101)]))
def rc9_5 : RC := (.seq (.seq (.run [zr 96 (.mv (zt 18)), zr 97 (.mv (zt 14)), zr 98 (.lens (zt 97)), zr 99 (.bin .lss (zt 96) (zt 98))])
  (.cond (zt 99)
  .skip
  (.exit 4)))
  rc9_4)
def rc9_6 : RC := (.seq (.run [zr 112 (.mv (zt 12)), zc 113 26 [(zt 112)], zr 114 (.mv (zt 15)), zc 115 26 [(zt 114)], zr 116 (.bin .eql (zt 113) (zt 115)), za 4 (zt 116)])
  .ret)
def rc9_7 : RC := (.seq (.seq (.run [za 18 (zi 0)])
  (.block 4 (.loop rc9_5)))
  rc9_6)
def rc9_8 : RC := (.seq (.run [zr 62 (.mv (zt 5)), zr 63 (.sl 7 (zt 62) (some (zi 1)) none), zc 64 25 [(zt 63)], zr 61 (.mv (zt 64)), zr 65 (.ext 0 (zt 61)), zr 66 (.ext 1 (zt 61)), za 12 (zt 65), za 13 (zt 66)])
  (.seq (.run [zr 67 (.mv (zt 6)), zr 68 (.mv (zt 10)), zr 69 (.sls (zt 67) (some (zt 68)) none), zr 70 (.mv (zt 7)), zr 71 (.bin .add (zt 69) (zt 70)), za 14 (zt 71)])
  (.seq (.run [zr 73 (.bld [(.string ⟨#[]⟩), (.string ⟨#[]⟩)] [(0, 1, (.const (.string ⟨#[97, 98]⟩))), (1, 1, (.const (.string ⟨#[98]⟩)))]), zr 76 (.mv (zt 5)), zr 77 (.ia 7 (zt 76) (zi 1)), zr 78 (.ldn 7 (zt 77)), zr 79 (.mv (zt 5)), zr 80 (.ia 7 (zt 79) (zi 2)), zr 81 (.ldn 7 (zt 80)), ⟨(some 74), none, (.e (.bsl 49 2 1 [(.string ⟨#[]⟩), (.string ⟨#[]⟩)] [(0, 2, (zt 73))])), [(78, none, .ldn 7 (zt 77)), (81, none, .ldn 7 (zt 80))]⟩, zr 75 (.bld [(.string ⟨#[]⟩), (.int .i64 0), (.string ⟨#[]⟩), (.slice none 0 0), (.int .i64 0), (.string ⟨#[]⟩), (.int .i64 0)] [(0, 1, (.const (.string ⟨#[97]⟩))), (1, 1, (zi 1)), (3, 1, (zt 74)), (4, 1, (zi 9)), (5, 1, (.const (.string ⟨#[97]⟩)))]), zf 82 (.bsl 29 7 3 [(.string ⟨#[]⟩), (.int .i64 0), (.string ⟨#[]⟩), (.slice none 0 0), (.int .i64 0), (.string ⟨#[]⟩), (.int .i64 0), (.string ⟨#[]⟩), (.int .i64 0), (.string ⟨#[]⟩), (.slice none 0 0), (.int .i64 0), (.string ⟨#[]⟩), (.int .i64 0), (.string ⟨#[]⟩), (.int .i64 0), (.string ⟨#[]⟩), (.slice none 0 0), (.int .i64 0), (.string ⟨#[]⟩), (.int .i64 0)] [(0, 7, (zt 75)), (7, 7, (zt 78)), (14, 7, (zt 81))]), zc 83 25 [(zt 82)], zr 72 (.mv (zt 83)), zr 84 (.ext 0 (zt 72)), zr 85 (.ext 1 (zt 72)), za 15 (zt 84), za 16 (zt 85)])
  (.seq (.seq (.run [za 17 (zi 0)])
  (.block 2 (.loop rc9_3)))
  rc9_7))))
def rc9_9 : RC := (.seq (.seq (.run [zr 59 (.mv (zt 10)), zr 60 (.bin .lss (zt 59) (zi 0))])
  (.cond (zt 60)
  (.seq (.run [za 4 (.const (.bool false))])
  .ret)
  .skip))
  rc9_8)
def rc9_10 : RC := (.seq (.run [zr 21 (.bld [(.string ⟨#[]⟩), (.string ⟨#[]⟩)] [(0, 1, (.const (.string ⟨#[97, 98]⟩))), (1, 1, (.const (.string ⟨#[98]⟩)))]), zf 22 (.bsl 49 2 1 [(.string ⟨#[]⟩), (.string ⟨#[]⟩)] [(0, 2, (zt 21))]), zr 23 (.bld [(.string ⟨#[]⟩), (.int .i64 0), (.string ⟨#[]⟩), (.slice none 0 0), (.int .i64 0), (.string ⟨#[]⟩), (.int .i64 0)] [(0, 1, (.const (.string ⟨#[97]⟩))), (1, 1, (zi 1)), (3, 1, (zt 22)), (4, 1, (zi 9)), (5, 1, (.const (.string ⟨#[97]⟩)))]), zr 24 (.bld [(.string ⟨#[]⟩), (.string ⟨#[]⟩)] [(0, 1, (.const (.string ⟨#[98, 99]⟩))), (1, 1, (.const (.string ⟨#[99]⟩)))]), zf 25 (.bsl 49 2 1 [(.string ⟨#[]⟩), (.string ⟨#[]⟩)] [(0, 2, (zt 24))]), zr 26 (.bld [(.string ⟨#[]⟩), (.int .i64 0), (.string ⟨#[]⟩), (.slice none 0 0), (.int .i64 0), (.string ⟨#[]⟩), (.int .i64 0)] [(0, 1, (.const (.string ⟨#[98]⟩))), (1, 1, (zi 1)), (3, 1, (zt 25)), (4, 1, (zi 9)), (5, 1, (.const (.string ⟨#[98]⟩)))]), zr 27 (.bld [(.string ⟨#[]⟩), (.int .i64 0), (.string ⟨#[]⟩), (.slice none 0 0), (.int .i64 0), (.string ⟨#[]⟩), (.int .i64 0)] [(0, 1, (.const (.string ⟨#[99]⟩))), (1, 1, (zi 4))]), zf 28 (.bsl 29 7 3 [(.string ⟨#[]⟩), (.int .i64 0), (.string ⟨#[]⟩), (.slice none 0 0), (.int .i64 0), (.string ⟨#[]⟩), (.int .i64 0), (.string ⟨#[]⟩), (.int .i64 0), (.string ⟨#[]⟩), (.slice none 0 0), (.int .i64 0), (.string ⟨#[]⟩), (.int .i64 0), (.string ⟨#[]⟩), (.int .i64 0), (.string ⟨#[]⟩), (.slice none 0 0), (.int .i64 0), (.string ⟨#[]⟩), (.int .i64 0)] [(0, 7, (zt 23)), (7, 7, (zt 26)), (14, 7, (zt 27))]), za 5 (zt 28)])
  (.seq (.run [zr 29 (.mv (zt 0)), zc 30 29 [(zt 29)], zr 31 (.bin .add (zt 30) (.const (.string ⟨#[97, 98]⟩))), za 6 (zt 31)])
  (.seq (.run [zr 32 (.mv (zt 1)), zc 33 29 [(zt 32)], za 7 (zt 33)])
  (.seq (.run [zr 35 (.mv (zt 5)), zc 36 25 [(zt 35)], zr 34 (.mv (zt 36)), zr 37 (.ext 0 (zt 34)), zr 38 (.ext 1 (zt 34)), za 8 (zt 37), za 9 (zt 38)])
  (.seq (.run [za 10 (zi (-1))])
  (.seq (.seq (.run [za 11 (zi 0)])
  (.block 0 (.loop rc9_1)))
  rc9_9))))))
def rc9 : RC := (.seq (.run [za 4 (.const (.bool false))])
  (.seq (.seq (.run [zc 19 24 [], zr 20 (.not (zt 19))])
  (.cond (zt 20)
  (.seq (.run [za 4 (.const (.bool false))])
  .ret)
  .skip))
  rc9_10))
def ce9 : List (Nat × List Nat × List Nat) := [(18, [0, 3, 4, 5, 6, 7, 8, 1, 2, 9, 10, 11, 12, 13, 14, 15], [0, 1, 3, 0, 8, 24, 0, 64, 192, 511, 1023, 2047, 4095, 4095, 8191, 32767])]
def ro9 : List RO := [(.mv (zt 4))]
theorem ok9 : okFn Tryz.prog 9 117 ce9 = some (rc9, ro9) := by kernel_rfl
/-! lifeline/lifelinelaw18.PlayRound -/
def rc10_0 : RC := (.seq (.block 1 (.run [zr 19 (.mv (zt 4)), zr 20 (.bld [(.string ⟨#[]⟩), (.int .i64 0), (.string ⟨#[]⟩), (.slice none 0 0), (.int .i64 0), (.string ⟨#[]⟩), (.int .i64 0)] [(1, 1, (zi 0)), (2, 1, (.const (.string ⟨#[120]⟩)))]), zf 21 (.bsl 29 7 1 [(.string ⟨#[]⟩), (.int .i64 0), (.string ⟨#[]⟩), (.slice none 0 0), (.int .i64 0), (.string ⟨#[]⟩), (.int .i64 0)] [(0, 7, (zt 20))]), zf 22 (.app 29 7 96 (zt 19) (zt 21)), za 4 (zt 22)]))
  (.run [zr 17 (.mv (zt 5)), zr 18 (.bin .add (zt 17) (zi 1)), za 5 (zt 18)]))
def rc10_1 : RC := (.seq (.seq (.run [zr 14 (.mv (zt 5)), zr 15 (.mv (zt 3)), zr 16 (.bin .lss (zt 14) (zt 15))])
  (.cond (zt 16)
  .skip
  (.exit 0)))
  rc10_0)
def rc10_2 : RC := (.seq (.run [zr 23 (.mv (zt 4)), zr 24 (.ia 7 (zt 23) (zi 0)), zr 25 (.fa 0 (zt 24)), ze (.st 1 (zt 25) (.const (.string ⟨#[97]⟩)))])
  (.seq (.run [zr 26 (.mv (zt 4)), zr 27 (.bld [(.string ⟨#[]⟩), (.int .i64 0), (.string ⟨#[]⟩), (.slice none 0 0), (.int .i64 0), (.string ⟨#[]⟩), (.int .i64 0)] [(1, 1, (zi 2)), (5, 1, (.const (.string ⟨#[97]⟩)))]), zf 28 (.bsl 29 7 1 [(.string ⟨#[]⟩), (.int .i64 0), (.string ⟨#[]⟩), (.slice none 0 0), (.int .i64 0), (.string ⟨#[]⟩), (.int .i64 0)] [(0, 7, (zt 27))]), zf 29 (.app 29 7 96 (zt 26) (zt 28)), za 4 (zt 29)])
  (.seq (.run [zr 31 (.mv (zt 4)), zc 32 25 [(zt 31)], zr 30 (.mv (zt 32)), zr 33 (.ext 0 (zt 30)), zr 34 (.ext 1 (zt 30)), za 6 (zt 33), za 7 (zt 34)])
  (.seq (.run [zr 35 (.mv (zt 6)), zc 36 26 [(zt 35)], zr 37 (.bin .eql (zt 36) (zi 2)), zr 38 (.mv (zt 37)), zg 39 38 true (.mv (zt 7)), zg 40 38 true (.lenl (zt 39)), zg 41 38 true (.bin .leq (zt 40) (zi 256)), zr 42 (.pick (zt 38) (zt 41) (.const (.bool false))), zr 43 (.mv (zt 42)), zg 44 43 true (.mv (zt 7)), zg 45 43 true (.lenl (zt 44)), zg 46 43 true (.mv (zt 3)), zg 47 43 true (.bin .mul (zi 256) (zt 46)), zg 48 43 true (.mv (zt 3)), zg 49 43 true (.bin .add (zt 48) (zi 1)), zg 50 43 true (.bin .quo (zt 47) (zt 49)), zg 51 43 true (.bin .sub (zt 50) (zi 1)), zg 52 43 true (.bin .geq (zt 45) (zt 51)), zr 53 (.pick (zt 43) (zt 52) (.const (.bool false))), zr 54 (.mv (zt 53)), zg 55 54 true (.mv (zt 6)), ⟨(some 56), (some (54, true)), (.c (.fn 31 [(zt 55)])), []⟩, zg 57 54 true (.lenl (zt 56)), zg 58 54 true (.bin .eql (zt 57) (zi 0)), zr 59 (.pick (zt 54) (zt 58) (.const (.bool false))), za 2 (zt 59)])
  .ret))))
def rc10_3 : RC := (.seq (.run [zr 10 (.mv (zt 0)), zr 11 (.bin .rem (zt 10) (.const (.int .u8 20))), zr 12 (.cvi .i64 (zt 11)), zr 13 (.bin .add (zi 1) (zt 12)), za 3 (zt 13)])
  (.seq (.run [za 4 (.const (.slice none 0 0))])
  (.seq (.seq (.run [za 5 (zi 0)])
  (.block 0 (.loop rc10_1)))
  rc10_2)))
def rc10 : RC := (.seq (.run [za 2 (.const (.bool false))])
  (.seq (.seq (.run [zc 8 24 [], zr 9 (.not (zt 8))])
  (.cond (zt 9)
  (.seq (.run [za 2 (.const (.bool false))])
  .ret)
  .skip))
  rc10_3))
def ce10 : List (Nat × List Nat × List Nat) := []
def ro10 : List RO := [(.mv (zt 2))]
theorem ok10 : okFn Tryz.prog 10 60 ce10 = some (rc10, ro10) := by kernel_rfl
/-! lifeline/lifelinelaw18.PlayOver -/
def rc11_0 : RC := (.seq (.block 1 (.seq (.run [zr 28 (.ia 1 (zt 24) (zt 26)), zr 29 (.ld (zt 28)), za 10 (zt 29)])
  (.seq (.run [zr 30 (.mv (zt 10)), zr 31 (.bin .rem (zt 30) (.const (.int .u8 5))), zr 32 (.bin .eql (zt 31) (.const (.int .u8 4)))])
  (.cond (zt 32)
  (.run [zr 33 (.mv (zt 7)), zc 34 27 [(zt 33)]])
  (.run [zr 35 (.mv (zt 7)), zr 36 (.mv (zt 10)), zr 37 (.bin .rem (zt 36) (.const (.int .u8 7))), zr 38 (.ixs (.const (.string ⟨#[97, 98, 99, 61, 62, 32, 98]⟩)) (zt 37)), zc 39 30 [(zt 35), (zt 38)]])))))
  (.run [zr 40 (.bin .add (zt 26) (zi 1)), zr 26 (.mv (zt 40))]))
def rc11_1 : RC := (.seq (.run [zr 27 (.bin .lss (zt 26) (zt 25))])
  (.seq (.cond (zt 27)
  .skip
  (.exit 0))
  rc11_0))
def rc11_2 : RC := (.seq (.block 3 (.seq (.run [zr 55 (.ia 1 (zt 51) (zt 53)), zr 56 (.ld (zt 55)), za 15 (zt 56)])
  (.seq (.run [zr 57 (.mv (zt 7)), zr 58 (.mv (zt 15)), zc 59 30 [(zt 57), (zt 58)], zr 60 (.lenl (zt 59)), zr 61 (.bin .gtr (zt 60) (zi 0)), zr 62 (.mv (zt 61)), zg 63 62 false (.mv (zt 7)), ⟨(some 64), (some (62, false)), (.c (.fn 27 [(zt 63)])), []⟩, zg 65 62 false (.lenl (zt 64)), zg 66 62 false (.bin .gtr (zt 65) (zi 0)), zr 67 (.pick (zt 62) (.const (.bool true)) (zt 66))])
  (.cond (zt 67)
  (.seq (.run [za 6 (.const (.bool false))])
  .ret)
  .skip))))
  (.run [zr 68 (.bin .add (zt 53) (zi 1)), zr 53 (.mv (zt 68))]))
def rc11_3 : RC := (.seq (.run [zr 54 (.bin .lss (zt 53) (zt 52))])
  (.seq (.cond (zt 54)
  .skip
  (.exit 2))
  rc11_2))
def rc11_4 : RC := (.seq (.run [zr 69 (.mv (zt 7)), zc 70 26 [(zt 69)], zr 71 (.mv (zt 11)), zr 72 (.bin .eql (zt 70) (zt 71)), zr 73 (.mv (zt 72)), zg 74 73 true (.mv (zt 7)), ⟨(some 75), (some (73, true)), (.c (.fn 28 [(zt 74)])), []⟩, zg 76 73 true (.mv (zt 12)), zg 77 73 true (.bin .eql (zt 75) (zt 76)), zr 78 (.pick (zt 73) (zt 77) (.const (.bool false))), zr 79 (.mv (zt 78)), zg 80 79 true (.mv (zt 7)), ⟨(some 81), (some (79, true)), (.c (.fn 31 [(zt 80)])), []⟩, zg 82 79 true (.lenl (zt 81)), zg 83 79 true (.mv (zt 13)), zg 84 79 true (.bin .eql (zt 82) (zt 83)), zr 85 (.pick (zt 79) (zt 84) (.const (.bool false))), za 6 (zt 85)])
  .ret)
def rc11_5 : RC := (.seq (.run [zr 44 (.mv (zt 7)), zc 45 26 [(zt 44)], zr 46 (.mv (zt 7)), zc 47 28 [(zt 46)], zr 48 (.mv (zt 7)), zc 49 31 [(zt 48)], zr 50 (.lenl (zt 49)), za 11 (zt 45), za 12 (zt 47), za 13 (zt 50)])
  (.seq (.seq (.run [zr 51 (.mv (zt 2)), zr 52 (.lenl (zt 51)), zr 53 (.mv (zi 0))])
  (.block 2 (.loop rc11_3)))
  rc11_4))
def rc11_6 : RC := (.seq (.seq (.run [zr 41 (.mv (zt 7)), zc 42 26 [(zt 41)], zr 43 (.bin .eql (zt 42) (zi 0))])
  (.cond (zt 43)
  (.seq (.run [za 6 (.const (.bool true))])
  .ret)
  .skip))
  rc11_5)
def rc11_7 : RC := (.seq (.run [zr 19 (.mv (zt 0)), zc 20 13 [(zt 19)], zc 21 25 [(zt 20)], zr 18 (.mv (zt 21)), zr 22 (.ext 0 (zt 18)), zr 23 (.ext 1 (zt 18)), za 7 (zt 22), za 8 (zt 23)])
  (.seq (.seq (.run [zr 24 (.mv (zt 1)), zr 25 (.lenl (zt 24)), zr 26 (.mv (zi 0))])
  (.block 0 (.loop rc11_1)))
  rc11_6))
def rc11 : RC := (.seq (.run [za 6 (.const (.bool false))])
  (.seq (.seq (.run [zc 16 24 [], zr 17 (.not (zt 16))])
  (.cond (zt 17)
  (.seq (.run [za 6 (.const (.bool false))])
  .ret)
  .skip))
  rc11_7))
def ce11 : List (Nat × List Nat × List Nat) := []
def ro11 : List RO := [(.mv (zt 6))]
theorem ok11 : okFn Tryz.prog 11 86 ce11 = some (rc11, ro11) := by kernel_rfl
/-! lifeline/lifelinelaw17.awake -/

def rc12 : RC := (.seq (.run [za 0 (.const (.bool false))])
  (.seq (.run [zc 6 18 [(.const (.string ⟨#[97, 58, 32, 115, 101, 110, 100, 32, 34, 92, 114, 34, 59, 32, 101, 120, 112, 101, 99, 116, 32, 34, 61, 62, 32, 34, 32, 103, 111, 32, 98, 32, 97, 102, 116, 101, 114, 32, 53, 32, 103, 111, 32, 97, 59, 32, 98, 58, 32, 100, 111, 110, 101, 59]⟩))], zr 5 (.mv (zt 6)), zr 7 (.ext 0 (zt 5)), zr 8 (.ext 1 (zt 5)), za 1 (zt 7), za 2 (zt 8)])
  (.seq (.run [zr 10 (.mv (zt 1)), zc 11 32 [(zt 10)], zr 9 (.mv (zt 11)), zr 12 (.ext 0 (zt 9)), zr 13 (.ext 1 (zt 9)), za 3 (zt 12), za 4 (zt 13)])
  (.seq (.run [zr 14 (.mv (zt 2)), zr 15 (.eq false (.iface []) (zt 14) (.const .nilIface)), zr 16 (.mv (zt 15)), zg 17 16 true (.mv (zt 4)), zg 18 16 true (.eq false (.iface []) (zt 17) (.const .nilIface)), zr 19 (.pick (zt 16) (zt 18) (.const (.bool false))), zr 20 (.mv (zt 19)), zg 21 20 true (.mv (zt 3)), zg 22 20 true (.bin .eql (zt 21) (zi 0)), zr 23 (.pick (zt 20) (zt 22) (.const (.bool false))), zr 24 (.mv (zt 23)), zg 25 24 true (.mv (zt 1)), zg 26 24 true (.lenl (zt 25)), zg 27 24 true (.bin .eql (zt 26) (zi 3)), zr 28 (.pick (zt 24) (zt 27) (.const (.bool false))), zr 29 (.mv (zt 28)), zg 30 29 true (.mv (zt 1)), zg 31 29 true (.ia 7 (zt 30) (zi 0)), zg 32 29 true (.fa 2 (zt 31)), zg 33 29 true (.ld (zt 32)), zg 34 29 true (.bin .eql (zt 33) (.const (.string ⟨#[13]⟩))), zr 35 (.pick (zt 29) (zt 34) (.const (.bool false))), zr 36 (.mv (zt 35)), zg 37 36 true (.mv (zt 1)), zg 38 36 true (.ia 7 (zt 37) (zi 1)), zg 39 36 true (.fa 3 (zt 38)), zg 40 36 true (.ld (zt 39)), zg 41 36 true (.ia 2 (zt 40) (zi 0)), zg 42 36 true (.fa 1 (zt 41)), zg 43 36 true (.ld (zt 42)), zg 44 36 true (.bin .eql (zt 43) (.const (.string ⟨#[98]⟩))), zr 45 (.pick (zt 36) (zt 44) (.const (.bool false))), zr 46 (.mv (zt 45)), zg 47 46 true (.mv (zt 1)), ⟨(some 48), (some (46, true)), (.c (.fn 14 [(zt 47), (.const (.string ⟨#[98]⟩))])), []⟩, zg 49 46 true (.bin .eql (zt 48) (zi 2)), zr 50 (.pick (zt 46) (zt 49) (.const (.bool false))), za 0 (zt 50)])
  .ret))))
def ce12 : List (Nat × List Nat × List Nat) := []
def ro12 : List RO := [(.mv (zt 0))]
theorem ok12 : okFn Tryz.prog 12 51 ce12 = some (rc12, ro12) := by kernel_rfl
/-! lifeline/lifelinelaw17.Steps -/
def rc13_0 : RC := (.run [⟨(some 26), none, (.c (.fn 33 [(zt 25)])), [(28, none, .ld (zt 27))]⟩, zr 31 (.bld [(.string ⟨#[]⟩), (.int .i64 0), (.string ⟨#[]⟩), (.slice none 0 0), (.int .i64 0), (.string ⟨#[]⟩), (.int .i64 0)] [(0, 1, (zt 26)), (1, 1, (zt 30))]), ⟨(some 7), none, (.e (.al [(.string ⟨#[]⟩), (.int .i64 0), (.string ⟨#[]⟩), (.slice none 0 0), (.int .i64 0), (.string ⟨#[]⟩), (.int .i64 0)] 29)), [(28, none, .ld (zt 27))]⟩, ze (.st 7 (zt 7) (zt 31))])
def rc13_1 : RC := (.run [⟨(some 7), none, (.e (.al [(.string ⟨#[]⟩), (.int .i64 0), (.string ⟨#[]⟩), (.slice none 0 0), (.int .i64 0), (.string ⟨#[]⟩), (.int .i64 0)] 29)), [(28, none, .ld (zt 27))]⟩, ⟨(some 26), none, (.c (.fn 33 [(zt 25)])), [(28, none, .ld (zt 27))]⟩, zr 31 (.bld [(.string ⟨#[]⟩), (.int .i64 0), (.string ⟨#[]⟩), (.slice none 0 0), (.int .i64 0), (.string ⟨#[]⟩), (.int .i64 0)] [(0, 1, (zt 26)), (1, 1, (zt 30))]), ze (.st 7 (zt 7) (zt 31))])
def rc13_2 : RC := (.seq (.block 4 (.seq (.run [zr 64 (.mv (zt 62)), zr 65 (.ia 1 (zt 60) (zt 62)), zr 66 (.ld (zt 65)), za 9 (zt 64), za 10 (zt 66)])
  (.seq (.run [zr 67 (.mv (zt 9)), zr 68 (.bin .lss (zt 67) (zi 3))])
  (.cond (zt 68)
  (.seq (.run [zr 70 (.mv (zt 10)), zc 71 34 [(zt 70), (zi 2)], zr 69 (.mv (zt 71)), zr 72 (.ext 0 (zt 69)), zr 73 (.ext 1 (zt 69)), zf 12 (.al [(.int .i64 0), (.int .u64 0), (.int .u64 0), (.int .u64 0), (.int .u64 0), (.slice none 0 0)] 76), za 11 (zt 72), ze (.st 6 (zt 12) (zt 73))])
  (.run [zr 74 (.fa 3 (zt 7)), zr 75 (.ld (zt 74)), zr 76 (.mv (zt 11)), zr 77 (.bin .add (.const (.string ⟨#[98]⟩)) (zt 76)), zr 78 (.fa 5 (zt 6)), zr 79 (.ld (zt 78)), zr 80 (.cvi .i64 (zt 79)), zr 81 (.mv (zt 9)), zr 82 (.bin .add (zt 80) (zt 81)), zr 83 (.mv (zt 3)), zr 84 (.bin .rem (zt 82) (zt 83)), ⟨(some 85), none, (.c (.fn 33 [(zt 84)])), [(75, none, .ld (zt 74))]⟩, zr 86 (.bld [(.string ⟨#[]⟩), (.string ⟨#[]⟩)] [(0, 1, (zt 77)), (1, 1, (zt 85))]), ⟨(some 87), none, (.e (.bsl 49 2 1 [(.string ⟨#[]⟩), (.string ⟨#[]⟩)] [(0, 2, (zt 86))])), [(75, none, .ld (zt 74))]⟩, zf 88 (.app 49 2 32 (zt 75) (zt 87)), zr 89 (.fa 3 (zt 7)), ze (.st 1 (zt 89) (zt 88))]))
  .skip))))
  (.run [zr 90 (.bin .add (zt 62) (zi 1)), zr 62 (.mv (zt 90))]))
def rc13_3 : RC := (.seq (.run [zr 63 (.bin .lss (zt 62) (zt 61))])
  (.seq (.cond (zt 63)
  .skip
  (.exit 3))
  rc13_2))
def rc13_4 : RC := (.seq (.run [zr 91 (.fa 3 (zt 7)), zr 92 (.ld (zt 91)), zr 93 (.lenl (zt 92)), zr 94 (.bin .eql (zt 93) (zi 0))])
  (.cond (zt 94)
  (.run [zr 95 (.mv (zt 8)), zr 96 (.bld [(.string ⟨#[]⟩), (.string ⟨#[]⟩)] [(0, 1, (.const (.string ⟨#[61, 62, 32]⟩))), (1, 1, (zt 95))]), zf 97 (.bsl 49 2 1 [(.string ⟨#[]⟩), (.string ⟨#[]⟩)] [(0, 2, (zt 96))]), zr 98 (.fa 3 (zt 7)), ze (.st 1 (zt 98) (zt 97))])
  .skip))
def rc13_5 : RC := (.seq (.run [zr 32 (.fa 5 (zt 6)), zr 33 (.ld (zt 32)), zr 34 (.cvi .i64 (zt 33)), zr 35 (.mv (zt 3)), zr 36 (.bin .rem (zt 34) (zt 35)), zc 37 33 [(zt 36)], za 8 (zt 37)])
  (.seq (.seq (.run [zr 38 (.fa 1 (zt 7)), zr 39 (.ld (zt 38))])
  (.block 2 (.seq (.run [zr 41 (.bin .eql (zt 39) (zi 0)), za 40 (zt 41)])
  (.cond (zt 40)
  (.run [zf 42 (.bsl 9 1 5 [(.string ⟨#[]⟩), (.string ⟨#[]⟩), (.string ⟨#[]⟩), (.string ⟨#[]⟩), (.string ⟨#[]⟩)] [(0, 1, (.const (.string ⟨#[13]⟩))), (1, 1, (.const (.string ⟨#[98, 111, 111, 116, 13, 10]⟩))), (2, 1, (.const (.string ⟨#[97, 32, 98]⟩))), (3, 1, (.const (.string ⟨#[]⟩))), (4, 1, (.const (.string ⟨#[34, 113, 92]⟩)))]), zr 43 (.fa 2 (zt 6)), zr 44 (.ld (zt 43)), zr 45 (.bin .rem (zt 44) (.const (.int .u8 5))), zr 46 (.ia 1 (zt 42) (zt 45)), zr 47 (.ld (zt 46)), zr 48 (.fa 2 (zt 7)), ze (.st 1 (zt 48) (zt 47))])
  (.seq (.run [zr 50 (.bin .eql (zt 39) (zi 1)), za 49 (zt 50)])
  (.cond (zt 49)
  (.seq (.run [zr 51 (.fa 4 (zt 6)), zr 52 (.ld (zt 51)), zr 53 (.bin .rem (zt 52) (.const (.int .u8 9))), zr 54 (.cvi .i64 (zt 53)), zr 55 (.bin .add (zi 1) (zt 54)), zr 56 (.mv (zt 8)), zr 57 (.fa 4 (zt 7)), ze (.st 1 (zt 57) (zt 55)), zr 58 (.fa 5 (zt 7)), ze (.st 1 (zt 58) (zt 56))])
  (.seq (.seq (.run [zr 59 (.fa 3 (zt 6)), zr 60 (.ld (zt 59)), zr 61 (.lenl (zt 60)), zr 62 (.mv (zi 0))])
  (.block 3 (.loop rc13_3)))
  rc13_4))
  (.seq (.run [zr 100 (.bin .eql (zt 39) (zi 2)), za 99 (zt 100)])
  (.cond (zt 99)
  (.run [zr 101 (.mv (zt 8)), zr 102 (.fa 5 (zt 7)), ze (.st 1 (zt 102) (zt 101))])
  (.seq (.run [zr 104 (.bin .eql (zt 39) (zi 3)), za 103 (zt 104)])
  (.cond (zt 103)
  (.run [zr 105 (.fa 4 (zt 6)), zr 106 (.ld (zt 105)), zr 107 (.bin .rem (zt 106) (.const (.int .u8 9))), zr 108 (.cvi .i64 (zt 107)), zr 109 (.bin .add (zi 1) (zt 108)), zr 110 (.mv (zt 8)), zr 111 (.fa 4 (zt 7)), ze (.st 1 (zt 111) (zt 109)), zr 112 (.fa 5 (zt 7)), ze (.st 1 (zt 112) (zt 110))])
  .skip))))))))))
  (.run [zr 113 (.mv (zt 4)), zr 114 (.ldn 7 (zt 7)), zf 115 (.bsl 29 7 1 [(.string ⟨#[]⟩), (.int .i64 0), (.string ⟨#[]⟩), (.slice none 0 0), (.int .i64 0), (.string ⟨#[]⟩), (.int .i64 0)] [(0, 7, (zt 114))]), zf 116 (.app 29 7 96 (zt 113) (zt 115)), za 4 (zt 116)])))
def rc13_6 : RC := (.seq (.block 1 (.seq (.run [zr 22 (.mv (zt 20)), zr 23 (.ia 6 (zt 18) (zt 20)), zr 24 (.ldn 6 (zt 23)), zf 6 (.al [(.bool false), (.int .u8 0), (.int .u8 0), (.slice none 0 0), (.int .u8 0), (.int .u8 0)] 69), za 5 (zt 22), ze (.st 6 (zt 6) (zt 24))])
  (.seq (.sem (.fork [zr 25 (.mv (zt 5)), zr 27 (.fa 1 (zt 6)), zr 28 (.ld (zt 27)), zr 29 (.bin .rem (zt 28) (.const (.int .u8 6))), zr 30 (.cvi .i64 (zt 29))]
  rc13_0
  rc13_1))
  rc13_5)))
  (.run [zr 117 (.bin .add (zt 20) (zi 1)), zr 20 (.mv (zt 117))]))
def rc13_7 : RC := (.seq (.run [zr 21 (.bin .lss (zt 20) (zt 19))])
  (.seq (.cond (zt 21)
  .skip
  (.exit 0))
  rc13_6))
def rc13_8 : RC := (.seq (.run [zr 118 (.mv (zt 4)), za 2 (zt 118)])
  .ret)
def rc13 : RC := (.seq (.run [za 2 (.const (.slice none 0 0))])
  (.seq (.run [zr 13 (.mv (zt 0)), zr 14 (.lenl (zt 13)), zr 15 (.mn (zt 14) (zi 12)), za 3 (zt 15)])
  (.seq (.run [za 4 (.const (.slice none 0 0))])
  (.seq (.seq (.run [zr 16 (.mv (zt 0)), zr 17 (.mv (zt 3)), zr 18 (.sl 6 (zt 16) none (some (zt 17))), zr 19 (.lenl (zt 18)), zr 20 (.mv (zi 0))])
  (.block 0 (.loop rc13_7)))
  rc13_8))))
def ce13 : List (Nat × List Nat × List Nat) := [(6, [0, 2, 3, 4, 5, 1000, 1, 6, 7, 8, 1001, 7, 1, 6, 8], [0, 1, 0, 4, 12, 28, 63, 0, 255]), (18, [0, 1, 2, 3, 4, 5, 6, 7, 8, 9, 10, 11, 12, 13, 14, 15, 16], [0, 1, 0, 4, 0, 16, 48, 0, 240, 0, 1008, 2032, 4092, 8188, 16383, 32767, 65535])]
def ro13 : List RO := [(.mv (zt 2))]
theorem ok13 : okFn Tryz.prog 13 119 ce13 = some (rc13, ro13) := by kernel_rfl
/-! lifeline/dialog.Find -/
def rc14_0 : RC := (.seq (.block 1 (.seq (.run [zr 11 (.mv (zt 9)), zr 12 (.ia 7 (zt 7) (zt 9)), zr 13 (.ldn 7 (zt 12)), zf 6 (.al [(.string ⟨#[]⟩), (.int .i64 0), (.string ⟨#[]⟩), (.slice none 0 0), (.int .i64 0), (.string ⟨#[]⟩), (.int .i64 0)] 29), za 5 (zt 11), ze (.st 7 (zt 6) (zt 13))])
  (.seq (.run [zr 14 (.fa 0 (zt 6)), zr 15 (.ld (zt 14)), zr 16 (.mv (zt 1)), zr 17 (.bin .eql (zt 15) (zt 16)), zr 18 (.mv (zt 17)), zg 19 18 true (.mv (zt 1)), zg 20 18 true (.bin .neq (zt 19) (.const (.string ⟨#[]⟩))), zr 21 (.pick (zt 18) (zt 20) (.const (.bool false)))])
  (.cond (zt 21)
  (.seq (.run [zr 22 (.mv (zt 5)), za 4 (zt 22)])
  .ret)
  .skip))))
  (.run [zr 23 (.bin .add (zt 9) (zi 1)), zr 9 (.mv (zt 23))]))
def rc14_1 : RC := (.seq (.run [zr 10 (.bin .lss (zt 9) (zt 8))])
  (.seq (.cond (zt 10)
  .skip
  (.exit 0))
  rc14_0))
def rc14_2 : RC := (.seq (.run [za 4 (zi (-1))])
  .ret)
def rc14 : RC := (.seq (.run [za 4 (zi 0)])
  (.seq (.seq (.run [zr 7 (.mv (zt 0)), zr 8 (.lenl (zt 7)), zr 9 (.mv (zi 0))])
  (.block 0 (.loop rc14_1)))
  rc14_2))
def ce14 : List (Nat × List Nat × List Nat) := []
def ro14 : List RO := [(.mv (zt 4))]
theorem ok14 : okFn Tryz.prog 14 24 ce14 = some (rc14, ro14) := by kernel_rfl
/-! lifeline/lifelinelaw17.find -/
def rc15_0 : RC := (.seq (.block 1 (.seq (.run [zr 11 (.mv (zt 9)), zr 12 (.ia 7 (zt 7) (zt 9)), zr 13 (.ldn 7 (zt 12)), zf 6 (.al [(.string ⟨#[]⟩), (.int .i64 0), (.string ⟨#[]⟩), (.slice none 0 0), (.int .i64 0), (.string ⟨#[]⟩), (.int .i64 0)] 29), za 5 (zt 11), ze (.st 7 (zt 6) (zt 13))])
  (.seq (.run [zr 14 (.mv (zt 1)), zr 15 (.bin .neq (zt 14) (.const (.string ⟨#[]⟩))), zr 16 (.mv (zt 15)), zg 17 16 true (.fa 0 (zt 6)), zg 18 16 true (.ld (zt 17)), zg 19 16 true (.mv (zt 1)), zg 20 16 true (.bin .eql (zt 18) (zt 19)), zr 21 (.pick (zt 16) (zt 20) (.const (.bool false)))])
  (.cond (zt 21)
  (.seq (.run [zr 22 (.mv (zt 5)), za 4 (zt 22)])
  .ret)
  .skip))))
  (.run [zr 23 (.bin .add (zt 9) (zi 1)), zr 9 (.mv (zt 23))]))
def rc15_1 : RC := (.seq (.run [zr 10 (.bin .lss (zt 9) (zt 8))])
  (.seq (.cond (zt 10)
  .skip
  (.exit 0))
  rc15_0))
def rc15_2 : RC := (.seq (.run [za 4 (zi (-1))])
  .ret)
def rc15 : RC := (.seq (.run [za 4 (zi 0)])
  (.seq (.seq (.run [zr 7 (.mv (zt 0)), zr 8 (.lenl (zt 7)), zr 9 (.mv (zi 0))])
  (.block 0 (.loop rc15_1)))
  rc15_2))
def ce15 : List (Nat × List Nat × List Nat) := []
def ro15 : List RO := [(.mv (zt 4))]
theorem ok15 : okFn Tryz.prog 15 24 ce15 = some (rc15, ro15) := by kernel_rfl
/-! lifeline/lifelinelaw17.DialogNumbers$1 -/

def rc16 : RC := (.seq (.run [za 2 (.const (.string ⟨#[]⟩))])
  (.seq (.run [zr 3 (.mv (zt 0)), zr 4 (.bin .rem (zt 3) (.const (.int .u8 120))), zr 5 (.cvi .i64 (zt 4)), zc 6 17 [(zt 5)], za 2 (zt 6)])
  .ret))
def ce16 : List (Nat × List Nat × List Nat) := []
def ro16 : List RO := [(.mv (zt 2))]
theorem ok16 : okFn Tryz.prog 16 7 ce16 = some (rc16, ro16) := by kernel_rfl
/-! lifeline/lifelinelaw17.digits -/
def rc17_0 : RC := (.seq (.run [zr 15 (.mv (zt 0)), zr 16 (.bin .quo (zt 15) (zi 10)), zc 17 17 [(zt 16)], zr 18 (.mv (zt 0)), zr 19 (.bin .rem (zt 18) (zi 10)), zc 20 17 [(zt 19)], zr 21 (.bin .add (zt 17) (zt 20)), za 2 (zt 21)])
  .ret)
def rc17_1 : RC := (.seq (.seq (.run [zr 9 (.mv (zt 0)), zr 10 (.bin .lss (zt 9) (zi 10))])
  (.cond (zt 10)
  (.seq (.run [zr 11 (.mv (zt 0)), zr 12 (.mv (zt 0)), zr 13 (.bin .add (zt 12) (zi 1)), zr 14 (.sls (.const (.string ⟨#[48, 49, 50, 51, 52, 53, 54, 55, 56, 57]⟩)) (some (zt 11)) (some (zt 13))), za 2 (zt 14)])
  .ret)
  .skip))
  rc17_0)
def rc17 : RC := (.seq (.run [za 2 (.const (.string ⟨#[]⟩))])
  (.seq (.seq (.run [zr 3 (.mv (zt 0)), zr 4 (.bin .lss (zt 3) (zi 0))])
  (.cond (zt 4)
  (.seq (.run [zr 5 (.mv (zt 0)), zr 6 (.neg (zt 5)), zc 7 17 [(zt 6)], zr 8 (.bin .add (.const (.string ⟨#[45]⟩)) (zt 7)), za 2 (zt 8)])
  .ret)
  .skip))
  rc17_1))
def ce17 : List (Nat × List Nat × List Nat) := []
def ro17 : List RO := [(.mv (zt 2))]
theorem ok17 : okFn Tryz.prog 17 22 ce17 = some (rc17, ro17) := by kernel_rfl
/-! lifeline/dialog.Parse -/
def rc18_0 : RC := (.block 1 (.run [zr 38 (.mv (zt 7)), zr 39 (.mv (zt 6)), zc 40 36 [(zt 39)], zf 41 (.bsl 29 7 1 [(.string ⟨#[]⟩), (.int .i64 0), (.string ⟨#[]⟩), (.slice none 0 0), (.int .i64 0), (.string ⟨#[]⟩), (.int .i64 0)] [(0, 7, (zt 40))]), zf 42 (.app 29 7 96 (zt 38) (zt 41)), za 7 (zt 42)]))
def rc18_1 : RC := (.seq (.seq (.run [zr 19 (.mv (zt 6)), zr 20 (.nck (zt 19)), zr 21 (.fa 2 (zt 20)), zr 22 (.ld (zt 21)), zr 23 (.eq false (.iface []) (zt 22) (.const .nilIface)), zr 24 (.mv (zt 23)), zg 25 24 true (.mv (zt 6)), zg 26 24 true (.nck (zt 25)), zg 27 24 true (.fa 0 (zt 26)), zg 28 24 true (.ld (zt 27)), zg 29 24 true (.mv (zt 6)), zg 30 24 true (.nck (zt 29)), zg 31 24 true (.fa 1 (zt 30)), zg 32 24 true (.ld (zt 31)), zg 33 24 true (.ia 4 (zt 28) (zt 32)), zg 34 24 true (.fa 0 (zt 33)), zg 35 24 true (.ld (zt 34)), zg 36 24 true (.bin .neq (zt 35) (zi 0)), zr 37 (.pick (zt 24) (zt 36) (.const (.bool false)))])
  (.cond (zt 37)
  .skip
  (.exit 0)))
  rc18_0)
def rc18_2 : RC := (.seq (.run [zr 52 (.mv (zt 7)), za 2 (zt 52), za 3 (.const .nilIface)])
  .ret)
def rc18_3 : RC := (.seq (.seq (.run [zr 43 (.mv (zt 6)), zr 44 (.nck (zt 43)), zr 45 (.fa 2 (zt 44)), zr 46 (.ld (zt 45)), zr 47 (.eq true (.iface []) (zt 46) (.const .nilIface))])
  (.cond (zt 47)
  (.seq (.run [zr 48 (.mv (zt 6)), zr 49 (.nck (zt 48)), zr 50 (.fa 2 (zt 49)), zr 51 (.ld (zt 50)), ⟨(some 2), none, (.a (.const (.slice none 0 0))), [(51, none, .ld (zt 50))]⟩, za 3 (zt 51)])
  .ret)
  .skip))
  rc18_2)
def rc18_4 : RC := (.seq (.run [zr 16 (.mv (zt 4)), zr 17 (.bld [(.slice none 0 0), (.int .i64 0), .nilIface] [(0, 1, (zt 16))]), zf 18 (.bx 84 (zt 17)), za 6 (zt 18)])
  (.seq (.run [za 7 (.const (.slice none 0 0))])
  (.seq (.block 0 (.loop rc18_1))
  rc18_3)))
def rc18 : RC := (.seq (.run [za 2 (.const (.slice none 0 0)), za 3 (.const .nilIface)])
  (.seq (.run [zr 9 (.mv (zt 0)), zc 10 35 [(zt 9)], zr 8 (.mv (zt 10)), zr 11 (.ext 0 (zt 8)), zr 12 (.ext 1 (zt 8)), za 4 (zt 11), za 5 (zt 12)])
  (.seq (.seq (.run [zr 13 (.mv (zt 5)), zr 14 (.eq true (.iface []) (zt 13) (.const .nilIface))])
  (.cond (zt 14)
  (.seq (.run [zr 15 (.mv (zt 5)), za 2 (.const (.slice none 0 0)), za 3 (zt 15)])
  .ret)
  .skip))
  rc18_4)))
def ce18 : List (Nat × List Nat × List Nat) := [(6, [0, 1, 2, 3, 4, 5, 6, 7, 8, 9, 10, 11, 12, 13, 14, 15, 16, 17, 18], [0, 1, 3, 7, 15, 31, 63, 127, 255, 511, 63, 1087, 3135, 7231, 16383, 32767, 65535, 131071, 262143]), (9, [0, 1, 2, 3, 4, 5], [0, 1, 3, 7, 0, 31])]
def ro18 : List RO := [(.mv (zt 2)), (.mv (zt 3))]
theorem ok18 : okFn Tryz.prog 18 53 ce18 = some (rc18, ro18) := by kernel_rfl
/-! lifeline/api.Number -/
def rc19_0 : RC := (.seq (.run [za 2 (zi 0)])
  .ret)
def rc19 : RC := (.seq (.run [za 2 (zi 0)])
  (.seq (.run [zf 3 (.al [(.int .i64 0)] 39)])
  (.seq (.seq (.run [zr 4 (.mv (zt 0)), zr 5 (.mki 90 (zt 3)), zc 6 37 [(zt 4), (zt 5)]])
  (.cond (zt 6)
  (.seq (.run [zr 7 (.ld (zt 3)), za 2 (zt 7)])
  .ret)
  .skip))
  rc19_0)))
def ce19 : List (Nat × List Nat × List Nat) := []
def ro19 : List RO := [(.mv (zt 2))]
theorem ok19 : okFn Tryz.prog 19 8 ce19 = some (rc19, ro19) := by kernel_rfl
/-! lifeline/api.Place -/
def rc20_0 : RC := (.seq (.run [za 2 (zi (-1))])
  .ret)
def rc20 : RC := (.seq (.run [za 2 (zi 0)])
  (.seq (.run [zf 3 (.al [(.int .i64 0), (.int .i64 0)] 92)])
  (.seq (.seq (.run [zr 4 (.mv (zt 0)), zr 5 (.mki 93 (zt 3)), zc 6 37 [(zt 4), (zt 5)]])
  (.cond (zt 6)
  (.seq (.run [zr 7 (.fa 1 (zt 3)), zr 8 (.ld (zt 7)), za 2 (zt 8)])
  .ret)
  .skip))
  rc20_0)))
def ce20 : List (Nat × List Nat × List Nat) := []
def ro20 : List RO := [(.mv (zt 2))]
theorem ok20 : okFn Tryz.prog 20 9 ce20 = some (rc20, ro20) := by kernel_rfl
/-! lifeline/dialog.Text -/
def rc21_0 : RC := (.seq (.block 1 (.seq (.run [zr 10 (.ia 7 (zt 6) (zt 8)), zr 11 (.ldn 7 (zt 10)), zf 5 (.al [(.string ⟨#[]⟩), (.int .i64 0), (.string ⟨#[]⟩), (.slice none 0 0), (.int .i64 0), (.string ⟨#[]⟩), (.int .i64 0)] 29), ze (.st 7 (zt 5) (zt 11))])
  (.run [zr 12 (.ldn 7 (zt 5)), zc 13 39 [(zt 12)], zc 14 38 [(zt 3), (zt 13)]])))
  (.run [zr 15 (.bin .add (zt 8) (zi 1)), zr 8 (.mv (zt 15))]))
def rc21_1 : RC := (.seq (.run [zr 9 (.bin .lss (zt 8) (zt 7))])
  (.seq (.cond (zt 9)
  .skip
  (.exit 0))
  rc21_0))
def rc21_2 : RC := (.seq (.run [zc 16 40 [(zt 3)], za 2 (zt 16)])
  .ret)
def rc21 : RC := (.seq (.run [za 2 (.const (.string ⟨#[]⟩))])
  (.seq (.run [zf 3 (.al [(.pointer none), (.slice none 0 0)] 96)])
  (.seq (.seq (.run [zr 6 (.mv (zt 0)), zr 7 (.lenl (zt 6)), zr 8 (.mv (zi 0))])
  (.block 0 (.loop rc21_1)))
  rc21_2)))
def ce21 : List (Nat × List Nat × List Nat) := []
def ro21 : List RO := [(.mv (zt 2))]
theorem ok21 : okFn Tryz.prog 21 17 ce21 = some (rc21, ro21) := by kernel_rfl
/-! lifeline/lifelinelaw17.text -/
def rc22_0 : RC := (.seq (.run [zr 69 (.fa 0 (zt 10)), zr 70 (.ld (zt 69)), zc 71 41 [(zt 70)], zr 68 (.mv (zt 71)), zr 72 (.ext 0 (zt 68)), zr 73 (.ext 1 (zt 68)), za 11 (zt 72), za 12 (zt 73)])
  (.run [zr 74 (.mv (zt 3)), zr 75 (.mv (zt 11)), zr 76 (.bin .add (zt 74) (zt 75)), zr 77 (.bin .add (zt 76) (.const (.string ⟨#[32, 103, 111, 32]⟩))), zr 78 (.fa 1 (zt 10)), zr 79 (.ld (zt 78)), zr 80 (.bin .add (zt 77) (zt 79)), za 3 (zt 80)]))
def rc22_1 : RC := (.seq (.block 4 (.seq (.run [zr 61 (.mv (zt 59)), zr 62 (.ia 2 (zt 57) (zt 59)), zr 63 (.ldn 2 (zt 62)), zf 10 (.al [(.string ⟨#[]⟩), (.string ⟨#[]⟩)] 49), za 9 (zt 61), ze (.st 2 (zt 10) (zt 63))])
  (.seq (.seq (.run [zr 64 (.mv (zt 9)), zr 65 (.bin .gtr (zt 64) (zi 0))])
  (.cond (zt 65)
  (.run [zr 66 (.mv (zt 3)), zr 67 (.bin .add (zt 66) (.const (.string ⟨#[44, 32]⟩))), za 3 (zt 67)])
  .skip))
  rc22_0)))
  (.run [zr 81 (.bin .add (zt 59) (zi 1)), zr 59 (.mv (zt 81))]))
def rc22_2 : RC := (.seq (.run [zr 60 (.bin .lss (zt 59) (zt 58))])
  (.seq (.cond (zt 60)
  .skip
  (.exit 3))
  rc22_1))
def rc22_3 : RC := (.seq (.run [zr 33 (.mv (zt 3)), zf 34 (.bsl 9 1 6 [(.string ⟨#[]⟩), (.string ⟨#[]⟩), (.string ⟨#[]⟩), (.string ⟨#[]⟩), (.string ⟨#[]⟩), (.string ⟨#[]⟩)] [(0, 1, (.const (.string ⟨#[115, 101, 110, 100]⟩))), (1, 1, (.const (.string ⟨#[101, 120, 112, 101, 99, 116]⟩))), (2, 1, (.const (.string ⟨#[103, 111]⟩))), (3, 1, (.const (.string ⟨#[116, 114, 121]⟩))), (4, 1, (.const (.string ⟨#[100, 111, 110, 101]⟩))), (5, 1, (.const (.string ⟨#[102, 97, 105, 108]⟩)))]), zr 35 (.mv (zt 6)), zr 36 (.ia 1 (zt 34) (zt 35)), zr 37 (.ld (zt 36)), zr 38 (.bin .add (zt 33) (zt 37)), za 3 (zt 38)])
  (.seq (.seq (.run [zr 39 (.mv (zt 6))])
  (.block 2 (.seq (.run [zr 41 (.bin .eql (zt 39) (zi 0)), za 40 (zt 41)])
  (.cond (zt 40)
  (.seq (.run [zr 43 (.fa 2 (zt 5)), zr 44 (.ld (zt 43)), zc 45 41 [(zt 44)], zr 42 (.mv (zt 45)), zr 46 (.ext 0 (zt 42)), zr 47 (.ext 1 (zt 42)), za 7 (zt 46), za 8 (zt 47)])
  (.run [zr 48 (.mv (zt 3)), zr 49 (.bin .add (zt 48) (.const (.string ⟨#[32]⟩))), zr 50 (.mv (zt 7)), zr 51 (.bin .add (zt 49) (zt 50)), za 3 (zt 51)]))
  (.seq (.run [zr 53 (.bin .eql (zt 39) (zi 1)), za 52 (zt 53)])
  (.cond (zt 52)
  (.seq (.run [zr 54 (.mv (zt 3)), zr 55 (.bin .add (zt 54) (.const (.string ⟨#[32]⟩))), za 3 (zt 55)])
  (.seq (.seq (.run [zr 56 (.fa 3 (zt 5)), zr 57 (.ld (zt 56)), zr 58 (.lenl (zt 57)), zr 59 (.mv (zi 0))])
  (.block 3 (.loop rc22_2)))
  (.run [zr 82 (.mv (zt 3)), zr 83 (.bin .add (zt 82) (.const (.string ⟨#[32, 97, 102, 116, 101, 114, 32]⟩))), zr 84 (.fa 4 (zt 5)), zr 85 (.ld (zt 84)), zr 89 (.fa 5 (zt 5)), zr 90 (.ld (zt 89)), ⟨(some 86), none, (.c (.fn 17 [(zt 85)])), [(90, none, .ld (zt 89))]⟩, zr 87 (.bin .add (zt 83) (zt 86)), zr 88 (.bin .add (zt 87) (.const (.string ⟨#[32, 103, 111, 32]⟩))), zr 91 (.bin .add (zt 88) (zt 90)), za 3 (zt 91)])))
  (.seq (.run [zr 93 (.bin .eql (zt 39) (zi 2)), za 92 (zt 93)])
  (.cond (zt 92)
  (.run [zr 94 (.mv (zt 3)), zr 95 (.bin .add (zt 94) (.const (.string ⟨#[32]⟩))), zr 96 (.fa 5 (zt 5)), zr 97 (.ld (zt 96)), zr 98 (.bin .add (zt 95) (zt 97)), za 3 (zt 98)])
  (.seq (.run [zr 100 (.bin .eql (zt 39) (zi 3)), za 99 (zt 100)])
  (.cond (zt 99)
  (.run [zr 101 (.mv (zt 3)), zr 102 (.bin .add (zt 101) (.const (.string ⟨#[32]⟩))), zr 103 (.fa 4 (zt 5)), zr 104 (.ld (zt 103)), zr 108 (.fa 5 (zt 5)), zr 109 (.ld (zt 108)), ⟨(some 105), none, (.c (.fn 17 [(zt 104)])), [(109, none, .ld (zt 108))]⟩, zr 106 (.bin .add (zt 102) (zt 105)), zr 107 (.bin .add (zt 106) (.const (.string ⟨#[32, 103, 111, 32]⟩))), zr 110 (.bin .add (zt 107) (zt 109)), za 3 (zt 110)])
  .skip))))))))))
  (.run [zr 111 (.mv (zt 3)), zr 112 (.bin .add (zt 111) (.const (.string ⟨#[59, 10]⟩))), za 3 (zt 112)])))
def rc22_4 : RC := (.seq (.seq (.run [zr 31 (.mv (zt 6)), zr 32 (.bin .gtr (zt 31) (zi 5))])
  (.cond (zt 32)
  (.run [za 6 (zi 5)])
  .skip))
  rc22_3)
def rc22_5 : RC := (.seq (.run [zr 27 (.fa 1 (zt 5)), zr 28 (.ld (zt 27)), za 6 (zt 28)])
  (.seq (.seq (.run [zr 29 (.mv (zt 6)), zr 30 (.bin .lss (zt 29) (zi 0))])
  (.cond (zt 30)
  (.run [za 6 (zi 0)])
  .skip))
  rc22_4))
def rc22_6 : RC := (.seq (.block 1 (.seq (.run [zr 17 (.ia 7 (zt 13) (zt 15)), zr 18 (.ldn 7 (zt 17)), zf 5 (.al [(.string ⟨#[]⟩), (.int .i64 0), (.string ⟨#[]⟩), (.slice none 0 0), (.int .i64 0), (.string ⟨#[]⟩), (.int .i64 0)] 29), ze (.st 7 (zt 5) (zt 18))])
  (.seq (.seq (.run [zr 19 (.fa 0 (zt 5)), zr 20 (.ld (zt 19)), zr 21 (.bin .neq (zt 20) (.const (.string ⟨#[]⟩)))])
  (.cond (zt 21)
  (.run [zr 22 (.mv (zt 3)), zr 23 (.fa 0 (zt 5)), zr 24 (.ld (zt 23)), zr 25 (.bin .add (zt 22) (zt 24)), zr 26 (.bin .add (zt 25) (.const (.string ⟨#[58, 32]⟩))), za 3 (zt 26)])
  .skip))
  rc22_5)))
  (.run [zr 113 (.bin .add (zt 15) (zi 1)), zr 15 (.mv (zt 113))]))
def rc22_7 : RC := (.seq (.run [zr 16 (.bin .lss (zt 15) (zt 14))])
  (.seq (.cond (zt 16)
  .skip
  (.exit 0))
  rc22_6))
def rc22_8 : RC := (.seq (.run [zr 114 (.mv (zt 3)), za 2 (zt 114)])
  .ret)
def rc22 : RC := (.seq (.run [za 2 (.const (.string ⟨#[]⟩))])
  (.seq (.run [za 3 (.const (.string ⟨#[]⟩))])
  (.seq (.seq (.run [zr 13 (.mv (zt 0)), zr 14 (.lenl (zt 13)), zr 15 (.mv (zi 0))])
  (.block 0 (.loop rc22_7)))
  rc22_8)))
def ce22 : List (Nat × List Nat × List Nat) := [(27, [0, 1, 2, 3, 7, 8, 4, 5, 6, 9, 10], [0, 1, 0, 4, 12, 31, 63, 0, 128, 511, 1023]), (31, [0, 1, 2, 3, 7, 8, 4, 5, 6, 9, 10], [0, 1, 0, 4, 12, 31, 63, 0, 128, 511, 1023])]
def ro22 : List RO := [(.mv (zt 2))]
theorem ok22 : okFn Tryz.prog 22 115 ce22 = some (rc22, ro22) := by kernel_rfl
/-! lifeline/lifelinelaw17.Same -/
def rc23_0 : RC := (.run [⟨(some 6), none, (.e (.al [(.string ⟨#[]⟩), (.int .i64 0), (.string ⟨#[]⟩), (.slice none 0 0), (.int .i64 0), (.string ⟨#[]⟩), (.int .i64 0)] 29)), [(22, none, .ldn 7 (zt 21)), (26, none, .ldn 7 (zt 25))]⟩, ⟨(some 7), none, (.e (.al [(.string ⟨#[]⟩), (.int .i64 0), (.string ⟨#[]⟩), (.slice none 0 0), (.int .i64 0), (.string ⟨#[]⟩), (.int .i64 0)] 29)), [(22, none, .ldn 7 (zt 21)), (26, none, .ldn 7 (zt 25))]⟩, ⟨none, none, (.e (.st 7 (zt 6) (zt 22))), [(26, none, .ldn 7 (zt 25))]⟩, ze (.st 7 (zt 7) (zt 26))])
def rc23_1 : RC := (.run [⟨(some 7), none, (.e (.al [(.string ⟨#[]⟩), (.int .i64 0), (.string ⟨#[]⟩), (.slice none 0 0), (.int .i64 0), (.string ⟨#[]⟩), (.int .i64 0)] 29)), [(22, none, .ldn 7 (zt 21)), (26, none, .ldn 7 (zt 25))]⟩, ⟨(some 6), none, (.e (.al [(.string ⟨#[]⟩), (.int .i64 0), (.string ⟨#[]⟩), (.slice none 0 0), (.int .i64 0), (.string ⟨#[]⟩), (.int .i64 0)] 29)), [(22, none, .ldn 7 (zt 21)), (26, none, .ldn 7 (zt 25))]⟩, ⟨none, none, (.e (.st 7 (zt 6) (zt 22))), [(26, none, .ldn 7 (zt 25))]⟩, ze (.st 7 (zt 7) (zt 26))])
def rc23_2 : RC := (.seq (.block 3 (.seq (.run [zr 74 (.mv (zt 72)), za 8 (zt 74)])
  (.seq (.run [zr 75 (.fa 3 (zt 6)), zr 76 (.ld (zt 75)), zr 77 (.mv (zt 8)), zr 78 (.ia 2 (zt 76) (zt 77)), zr 79 (.ldn 2 (zt 78)), zr 80 (.fa 3 (zt 7)), zr 81 (.ld (zt 80)), zr 82 (.mv (zt 8)), zr 83 (.ia 2 (zt 81) (zt 82)), zr 84 (.ldn 2 (zt 83)), zr 85 (.eq true (.recd [(0, 0, .str), (1, 0, .str)]) (zt 79) (zt 84))])
  (.cond (zt 85)
  (.seq (.run [za 4 (.const (.bool false))])
  .ret)
  .skip))))
  (.run [zr 86 (.bin .add (zt 72) (zi 1)), zr 72 (.mv (zt 86))]))
def rc23_3 : RC := (.seq (.run [zr 73 (.bin .lss (zt 72) (zt 71))])
  (.seq (.cond (zt 73)
  .skip
  (.exit 2))
  rc23_2))
def rc23_4 : RC := (.seq (.run [zr 69 (.fa 3 (zt 6)), zr 70 (.ld (zt 69)), zr 71 (.lenl (zt 70)), zr 72 (.mv (zi 0))])
  (.block 2 (.loop rc23_3)))
def rc23_5 : RC := (.seq (.seq (.run [zr 27 (.fa 0 (zt 6)), zr 28 (.ld (zt 27)), zr 29 (.fa 0 (zt 7)), zr 30 (.ld (zt 29)), zr 31 (.bin .neq (zt 28) (zt 30)), zr 32 (.mv (zt 31)), zg 33 32 false (.fa 1 (zt 6)), zg 34 32 false (.ld (zt 33)), zg 35 32 false (.fa 1 (zt 7)), zg 36 32 false (.ld (zt 35)), zg 37 32 false (.bin .neq (zt 34) (zt 36)), zr 38 (.pick (zt 32) (.const (.bool true)) (zt 37)), zr 39 (.mv (zt 38)), zg 40 39 false (.fa 2 (zt 6)), zg 41 39 false (.ld (zt 40)), zg 42 39 false (.fa 2 (zt 7)), zg 43 39 false (.ld (zt 42)), zg 44 39 false (.bin .neq (zt 41) (zt 43)), zr 45 (.pick (zt 39) (.const (.bool true)) (zt 44)), zr 46 (.mv (zt 45)), zg 47 46 false (.fa 4 (zt 6)), zg 48 46 false (.ld (zt 47)), zg 49 46 false (.fa 4 (zt 7)), zg 50 46 false (.ld (zt 49)), zg 51 46 false (.bin .neq (zt 48) (zt 50)), zr 52 (.pick (zt 46) (.const (.bool true)) (zt 51)), zr 53 (.mv (zt 52)), zg 54 53 false (.fa 5 (zt 6)), zg 55 53 false (.ld (zt 54)), zg 56 53 false (.fa 5 (zt 7)), zg 57 53 false (.ld (zt 56)), zg 58 53 false (.bin .neq (zt 55) (zt 57)), zr 59 (.pick (zt 53) (.const (.bool true)) (zt 58)), zr 60 (.mv (zt 59)), zg 61 60 false (.fa 3 (zt 6)), zg 62 60 false (.ld (zt 61)), zg 63 60 false (.lenl (zt 62)), zg 64 60 false (.fa 3 (zt 7)), zg 65 60 false (.ld (zt 64)), zg 66 60 false (.lenl (zt 65)), zg 67 60 false (.bin .neq (zt 63) (zt 66)), zr 68 (.pick (zt 60) (.const (.bool true)) (zt 67))])
  (.cond (zt 68)
  (.seq (.run [za 4 (.const (.bool false))])
  .ret)
  .skip))
  rc23_4)
def rc23_6 : RC := (.seq (.block 1 (.seq (.run [zr 18 (.mv (zt 16)), za 5 (zt 18)])
  (.seq (.sem (.fork [zr 19 (.mv (zt 0)), zr 20 (.mv (zt 5)), zr 21 (.ia 7 (zt 19) (zt 20)), zr 22 (.ldn 7 (zt 21)), zr 23 (.mv (zt 1)), zr 24 (.mv (zt 5)), zr 25 (.ia 7 (zt 23) (zt 24)), zr 26 (.ldn 7 (zt 25))]
  rc23_0
  rc23_1))
  rc23_5)))
  (.run [zr 87 (.bin .add (zt 16) (zi 1)), zr 16 (.mv (zt 87))]))
def rc23_7 : RC := (.seq (.run [zr 17 (.bin .lss (zt 16) (zt 15))])
  (.seq (.cond (zt 17)
  .skip
  (.exit 0))
  rc23_6))
def rc23_8 : RC := (.seq (.run [za 4 (.const (.bool true))])
  .ret)
def rc23_9 : RC := (.seq (.seq (.run [zr 14 (.mv (zt 0)), zr 15 (.lenl (zt 14)), zr 16 (.mv (zi 0))])
  (.block 0 (.loop rc23_7)))
  rc23_8)
def rc23 : RC := (.seq (.run [za 4 (.const (.bool false))])
  (.seq (.seq (.run [zr 9 (.mv (zt 0)), zr 10 (.lenl (zt 9)), zr 11 (.mv (zt 1)), zr 12 (.lenl (zt 11)), zr 13 (.bin .neq (zt 10) (zt 12))])
  (.cond (zt 13)
  (.seq (.run [za 4 (.const (.bool false))])
  .ret)
  .skip))
  rc23_9))
def ce23 : List (Nat × List Nat × List Nat) := [(6, [0, 1, 2, 3, 4, 5, 6, 7, 1000, 8, 9, 10, 11, 1001, 9, 8, 10, 11], [0, 0, 3, 7, 0, 0, 48, 112, 0, 0, 783, 2047]), (12, [0, 1, 2, 3, 4, 5, 6, 7, 8, 9, 10], [0, 1, 0, 7, 15, 0, 32, 0, 224, 480, 1023])]
def ro23 : List RO := [(.mv (zt 4))]
theorem ok23 : okFn Tryz.prog 23 88 ce23 = some (rc23, ro23) := by kernel_rfl
/-! lifeline/lifelinelaw18.awake -/
def rc24_0 : RC := (.seq (.run [zr 18 (.mv (zt 3)), zc 19 27 [(zt 18)], zr 20 (.mv (zt 3)), zc 21 27 [(zt 20)], za 5 (zt 19), za 6 (zt 21)])
  (.seq (.run [zr 22 (.mv (zt 3)), zc 23 30 [(zt 22), (.const (.int .u8 121))]])
  (.seq (.run [zr 24 (.mv (zt 4)), zr 25 (.b2s (zt 24)), zr 26 (.bin .eql (zt 25) (.const (.string ⟨#[120]⟩))), zr 27 (.mv (zt 26)), zg 28 27 true (.mv (zt 5)), zg 29 27 true (.lenl (zt 28)), zg 30 27 true (.bin .eql (zt 29) (zi 0)), zr 31 (.pick (zt 27) (zt 30) (.const (.bool false))), zr 32 (.mv (zt 31)), zg 33 32 true (.mv (zt 6)), zg 34 32 true (.b2s (zt 33)), zg 35 32 true (.bin .eql (zt 34) (.const (.string ⟨#[120]⟩))), zr 36 (.pick (zt 32) (zt 35) (.const (.bool false))), zr 37 (.mv (zt 36)), zg 38 37 true (.mv (zt 3)), ⟨(some 39), (some (37, true)), (.c (.fn 26 [(zt 38)])), []⟩, zg 40 37 true (.bin .eql (zt 39) (zi 1)), zr 41 (.pick (zt 37) (zt 40) (.const (.bool false))), zr 42 (.mv (zt 41)), zg 43 42 true (.mv (zt 3)), ⟨(some 44), (some (42, true)), (.c (.fn 28 [(zt 43)])), []⟩, zg 45 42 true (.bin .eql (zt 44) (zi 2)), zr 46 (.pick (zt 42) (zt 45) (.const (.bool false))), za 0 (zt 46)])
  .ret)))
def rc24 : RC := (.seq (.run [za 0 (.const (.bool false))])
  (.seq (.run [zc 8 18 [(.const (.string ⟨#[97, 58, 32, 115, 101, 110, 100, 32, 34, 120, 34, 59, 32, 101, 120, 112, 101, 99, 116, 32, 34, 121, 34, 32, 103, 111, 32, 98, 32, 97, 102, 116, 101, 114, 32, 50, 32, 103, 111, 32, 97, 59, 32, 98, 58, 32, 100, 111, 110, 101, 59]⟩))], zr 7 (.mv (zt 8)), zr 9 (.ext 0 (zt 7)), zr 10 (.ext 1 (zt 7)), za 1 (zt 9), za 2 (zt 10)])
  (.seq (.run [zr 12 (.mv (zt 1)), zc 13 25 [(zt 12)], zr 11 (.mv (zt 13)), zr 14 (.ext 0 (zt 11)), zr 15 (.ext 1 (zt 11)), za 3 (zt 14), za 4 (zt 15)])
  (.seq (.seq (.run [zr 16 (.mv (zt 3)), zr 17 (.eq false .ptr (zt 16) (.const (.pointer none)))])
  (.cond (zt 17)
  (.seq (.run [za 0 (.const (.bool false))])
  .ret)
  .skip))
  rc24_0))))
def ce24 : List (Nat × List Nat × List Nat) := []
def ro24 : List RO := [(.mv (zt 0))]
theorem ok24 : okFn Tryz.prog 24 47 ce24 = some (rc24, ro24) := by kernel_rfl
/-! lifeline/play.Of -/
def rc25_0 : RC := (.seq (.run [zr 23 (.mv (zt 4)), zr 24 (.mv (zt 4)), zc 25 42 [(zt 24)], za 2 (zt 23), za 3 (zt 25)])
  .ret)
def rc25 : RC := (.seq (.run [za 2 (.const (.pointer none)), za 3 (.const (.slice none 0 0))])
  (.seq (.run [zr 7 (.mv (zt 0)), zf 8 (.app 29 7 96 (.const (.slice none 0 0)) (zt 7)), zf 9 (.mkm), zr 10 (.bld [(.slice none 0 0), (.int .i64 0), (.map none), (.pointer none), (.int .i64 0), (.int .i64 0), (.int .i64 0), (.slice none 0 0)] [(0, 1, (zt 8)), (2, 1, (zt 9))]), zf 11 (.bx 105 (zt 10)), za 4 (zt 11)])
  (.seq (.seq (.run [zr 13 (.mv (zt 0)), zc 14 32 [(zt 13)], zr 12 (.mv (zt 14)), zr 15 (.ext 0 (zt 12)), zr 16 (.ext 1 (zt 12)), za 5 (zt 15), za 6 (zt 16)])
  (.seq (.run [zr 17 (.mv (zt 6)), zr 18 (.eq true (.iface []) (zt 17) (.const .nilIface))])
  (.cond (zt 18)
  (.seq (.run [zr 19 (.mv (zt 4)), zr 20 (.nck (zt 19)), zr 21 (.fa 6 (zt 20)), ze (.st 1 (zt 21) (zi 2))])
  (.seq (.run [zr 22 (.mv (zt 4)), za 2 (zt 22), za 3 (.const (.slice none 0 0))])
  .ret))
  .skip)))
  rc25_0)))
def ce25 : List (Nat × List Nat × List Nat) := []
def ro25 : List RO := [(.mv (zt 2)), (.mv (zt 3))]
theorem ok25 : okFn Tryz.prog 25 26 ce25 = some (rc25, ro25) := by kernel_rfl
/-! (*lifeline/play.Play).State -/

def rc26 : RC := (.seq (.run [za 2 (zi 0)])
  (.seq (.run [zr 3 (.mv (zt 0)), zr 4 (.nck (zt 3)), zr 5 (.fa 6 (zt 4)), zr 6 (.ld (zt 5)), za 2 (zt 6)])
  .ret))
def ce26 : List (Nat × List Nat × List Nat) := []
def ro26 : List RO := [(.mv (zt 2))]
theorem ok26 : okFn Tryz.prog 26 7 ce26 = some (rc26, ro26) := by kernel_rfl
/-! (*lifeline/play.Play).Tick -/
def rc27_0 : RC := (.seq (.run [zr 27 (.mv (zt 0)), zr 28 (.nck (zt 27)), zr 29 (.fa 3 (zt 28)), ze (.st 1 (zt 29) (.const (.pointer none)))])
  (.seq (.run [zr 30 (.mv (zt 0)), zr 31 (.mv (zt 0)), zr 32 (.nck (zt 31)), zr 33 (.fa 0 (zt 32)), zr 34 (.ld (zt 33)), zr 35 (.mv (zt 0)), zr 36 (.nck (zt 35)), zr 37 (.fa 1 (zt 36)), zr 38 (.ld (zt 37)), zr 39 (.ia 7 (zt 34) (zt 38)), zr 40 (.fa 5 (zt 39)), zr 41 (.ld (zt 40)), zc 42 43 [(zt 30), (zt 41)]])
  (.seq (.run [zr 43 (.mv (zt 0)), zc 44 42 [(zt 43)], za 2 (zt 44)])
  .ret)))
def rc27_1 : RC := (.seq (.run [zr 15 (.mv (zt 0)), zr 16 (.nck (zt 15)), zr 17 (.fa 4 (zt 16)), zr 18 (.ld (zt 17)), zr 19 (.bin .sub (zt 18) (zi 1)), zr 20 (.nck (zt 15)), zr 21 (.fa 4 (zt 20)), ze (.st 1 (zt 21) (zt 19))])
  (.seq (.seq (.run [zr 22 (.mv (zt 0)), zr 23 (.nck (zt 22)), zr 24 (.fa 4 (zt 23)), zr 25 (.ld (zt 24)), zr 26 (.bin .gtr (zt 25) (zi 0))])
  (.cond (zt 26)
  (.seq (.run [za 2 (.const (.slice none 0 0))])
  .ret)
  .skip))
  rc27_0))
def rc27 : RC := (.seq (.run [za 2 (.const (.slice none 0 0))])
  (.seq (.seq (.run [zr 3 (.mv (zt 0)), zr 4 (.nck (zt 3)), zr 5 (.fa 6 (zt 4)), zr 6 (.ld (zt 5)), zr 7 (.bin .neq (zt 6) (zi 0)), zr 8 (.mv (zt 7)), zg 9 8 false (.mv (zt 0)), zg 10 8 false (.nck (zt 9)), zg 11 8 false (.fa 3 (zt 10)), zg 12 8 false (.ld (zt 11)), zg 13 8 false (.eq false .ptr (zt 12) (.const (.pointer none))), zr 14 (.pick (zt 8) (.const (.bool true)) (zt 13))])
  (.cond (zt 14)
  (.seq (.run [za 2 (.const (.slice none 0 0))])
  .ret)
  .skip))
  rc27_1))
def ce27 : List (Nat × List Nat × List Nat) := [(7, [0, 1, 2, 3, 4, 5, 6, 7, 8, 9, 10, 11, 12], [0, 0, 2, 6, 14, 0, 32, 96, 224, 510, 1022, 2046, 4095])]
def ro27 : List RO := [(.mv (zt 2))]
theorem ok27 : okFn Tryz.prog 27 45 ce27 = some (rc27, ro27) := by kernel_rfl
/-! (*lifeline/play.Play).At -/

def rc28 : RC := (.seq (.run [za 2 (zi 0)])
  (.seq (.run [zr 3 (.mv (zt 0)), zr 4 (.nck (zt 3)), zr 5 (.fa 1 (zt 4)), zr 6 (.ld (zt 5)), za 2 (zt 6)])
  .ret))
def ce28 : List (Nat × List Nat × List Nat) := []
def ro28 : List RO := [(.mv (zt 2))]
theorem ok28 : okFn Tryz.prog 28 7 ce28 = some (rc28, ro28) := by kernel_rfl
/-! lifeline/lifelinelaw07.Text -/
def rc29_0 : RC := (.seq (.block 1 (.seq (.run [zr 10 (.mv (zt 8)), zr 11 (.ia 1 (zt 6) (zt 8)), zr 12 (.ld (zt 11)), za 4 (zt 10), za 5 (zt 12)])
  (.seq (.run [zr 13 (.mv (zt 4)), zr 14 (.bin .lss (zt 13) (zi 14))])
  (.cond (zt 14)
  (.run [zr 15 (.mv (zt 3)), zr 16 (.mv (zt 5)), zr 17 (.bin .rem (zt 16) (.const (.int .u8 3))), zr 18 (.mv (zt 5)), zr 19 (.bin .rem (zt 18) (.const (.int .u8 3))), zr 20 (.bin .add (zt 19) (.const (.int .u8 1))), zr 21 (.sls (.const (.string ⟨#[97, 98, 99]⟩)) (some (zt 17)) (some (zt 20))), zr 22 (.bin .add (zt 15) (zt 21)), za 3 (zt 22)])
  .skip))))
  (.run [zr 23 (.bin .add (zt 8) (zi 1)), zr 8 (.mv (zt 23))]))
def rc29_1 : RC := (.seq (.run [zr 9 (.bin .lss (zt 8) (zt 7))])
  (.seq (.cond (zt 9)
  .skip
  (.exit 0))
  rc29_0))
def rc29_2 : RC := (.seq (.run [zr 24 (.mv (zt 3)), za 2 (zt 24)])
  .ret)
def rc29 : RC := (.seq (.run [za 2 (.const (.string ⟨#[]⟩))])
  (.seq (.run [za 3 (.const (.string ⟨#[]⟩))])
  (.seq (.seq (.run [zr 6 (.mv (zt 0)), zr 7 (.lenl (zt 6)), zr 8 (.mv (zi 0))])
  (.block 0 (.loop rc29_1)))
  rc29_2)))
def ce29 : List (Nat × List Nat × List Nat) := []
def ro29 : List RO := [(.mv (zt 2))]
theorem ok29 : okFn Tryz.prog 29 25 ce29 = some (rc29, ro29) := by kernel_rfl
/-! (*lifeline/play.Play).Put -/
def rc30_0 : RC := (.seq (.run [zr 30 (.mv (zt 0)), zr 31 (.mv (zt 0)), zr 32 (.nck (zt 31)), zr 33 (.fa 7 (zt 32)), zr 34 (.ld (zt 33)), zr 35 (.mv (zt 5)), zf 36 (.bsl 3 1 1 [(.int .i64 0)] [(0, 1, (zt 35))]), zf 37 (.app 3 1 8 (zt 34) (zt 36)), zr 38 (.nck (zt 30)), zr 39 (.fa 7 (zt 38)), ze (.st 1 (zt 39) (zt 37))])
  (.seq (.run [zr 40 (.mv (zt 0)), zr 41 (.nck (zt 40)), zr 42 (.fa 3 (zt 41)), ze (.st 1 (zt 42) (.const (.pointer none)))])
  (.seq (.run [zr 43 (.mv (zt 0)), zr 44 (.mv (zt 0)), zr 45 (.nck (zt 44)), zr 46 (.fa 0 (zt 45)), zr 47 (.ld (zt 46)), zr 48 (.mv (zt 0)), zr 49 (.nck (zt 48)), zr 50 (.fa 1 (zt 49)), zr 51 (.ld (zt 50)), zr 52 (.ia 7 (zt 47) (zt 51)), zr 53 (.fa 3 (zt 52)), zr 54 (.ld (zt 53)), zr 55 (.mv (zt 5)), zr 56 (.ia 2 (zt 54) (zt 55)), zr 57 (.fa 1 (zt 56)), zr 58 (.ld (zt 57)), zc 59 43 [(zt 43), (zt 58)]])
  (.seq (.run [zr 60 (.mv (zt 0)), zc 61 42 [(zt 60)], za 4 (zt 61)])
  .ret))))
def rc30_1 : RC := (.seq (.run [zr 20 (.mv (zt 0)), zr 21 (.nck (zt 20)), zr 22 (.fa 3 (zt 21)), zr 23 (.ld (zt 22)), zr 24 (.mv (zt 1)), zc 25 44 [(zt 23), (zt 24)], zr 19 (.mv (zt 25)), zr 26 (.ext 0 (zt 19)), zr 27 (.ext 1 (zt 19)), za 5 (zt 26), za 6 (zt 27)])
  (.seq (.seq (.run [zr 28 (.mv (zt 6)), zr 29 (.not (zt 28))])
  (.cond (zt 29)
  (.seq (.run [za 4 (.const (.slice none 0 0))])
  .ret)
  .skip))
  rc30_0))
def rc30 : RC := (.seq (.run [za 4 (.const (.slice none 0 0))])
  (.seq (.seq (.run [zr 7 (.mv (zt 0)), zr 8 (.nck (zt 7)), zr 9 (.fa 6 (zt 8)), zr 10 (.ld (zt 9)), zr 11 (.bin .neq (zt 10) (zi 0)), zr 12 (.mv (zt 11)), zg 13 12 false (.mv (zt 0)), zg 14 12 false (.nck (zt 13)), zg 15 12 false (.fa 3 (zt 14)), zg 16 12 false (.ld (zt 15)), zg 17 12 false (.eq false .ptr (zt 16) (.const (.pointer none))), zr 18 (.pick (zt 12) (.const (.bool true)) (zt 17))])
  (.cond (zt 18)
  (.seq (.run [za 4 (.const (.slice none 0 0))])
  .ret)
  .skip))
  rc30_1))
def ce30 : List (Nat × List Nat × List Nat) := [(8, [0, 1, 2, 3, 4, 5, 6, 7, 8, 9, 10, 11, 12, 13, 14, 15, 16], [0, 0, 2, 6, 14, 0, 32, 96, 224, 510, 1022, 2046, 0, 8190, 16382, 32766, 65535])]
def ro30 : List RO := [(.mv (zt 4))]
theorem ok30 : okFn Tryz.prog 30 62 ce30 = some (rc30, ro30) := by kernel_rfl
/-! (*lifeline/play.Play).Trace -/

def rc31 : RC := (.seq (.run [za 2 (.const (.slice none 0 0))])
  (.seq (.run [zr 3 (.mv (zt 0)), zr 4 (.nck (zt 3)), zr 5 (.fa 7 (zt 4)), zr 6 (.ld (zt 5)), zf 7 (.app 3 1 8 (.const (.slice none 0 0)) (zt 6)), za 2 (zt 7)])
  .ret))
def ce31 : List (Nat × List Nat × List Nat) := []
def ro31 : List RO := [(.mv (zt 2))]
theorem ok31 : okFn Tryz.prog 31 8 ce31 = some (rc31, ro31) := by kernel_rfl
/-! lifeline/dialog.Check -/
def rc32_0 : RC := (.run [⟨(some 75), none, (.e (.app 9 1 16 (zt 71) (zt 74))), [(78, none, .ld (zt 77))]⟩, ⟨(some 79), none, (.e (.bsl 9 1 1 [(.string ⟨#[]⟩)] [(0, 1, (zt 78))])), [(73, none, .ld (zt 72))]⟩, zf 80 (.app 9 1 16 (zt 76) (zt 79)), za 6 (zt 75), za 7 (zt 80)])
def rc32_1 : RC := (.run [⟨(some 79), none, (.e (.bsl 9 1 1 [(.string ⟨#[]⟩)] [(0, 1, (zt 78))])), [(73, none, .ld (zt 72))]⟩, ⟨(some 75), none, (.e (.app 9 1 16 (zt 71) (zt 74))), [(78, none, .ld (zt 77))]⟩, zf 80 (.app 9 1 16 (zt 76) (zt 79)), za 6 (zt 75), za 7 (zt 80)])
def rc32_2 : RC := (.fork [⟨(some 74), none, (.e (.bsl 9 1 1 [(.string ⟨#[]⟩)] [(0, 1, (zt 73))])), [(78, none, .ld (zt 77))]⟩]
  rc32_0
  rc32_1)
def rc32_3 : RC := (.run [⟨(some 79), none, (.e (.bsl 9 1 1 [(.string ⟨#[]⟩)] [(0, 1, (zt 78))])), [(73, none, .ld (zt 72))]⟩, ⟨(some 74), none, (.e (.bsl 9 1 1 [(.string ⟨#[]⟩)] [(0, 1, (zt 73))])), [(78, none, .ld (zt 77))]⟩, ⟨(some 75), none, (.e (.app 9 1 16 (zt 71) (zt 74))), [(78, none, .ld (zt 77))]⟩, zf 80 (.app 9 1 16 (zt 76) (zt 79)), za 6 (zt 75), za 7 (zt 80)])
def rc32_4 : RC := (.seq (.block 3 (.seq (.run [zr 69 (.ia 2 (zt 65) (zt 67)), zr 70 (.ldn 2 (zt 69)), zf 9 (.al [(.string ⟨#[]⟩), (.string ⟨#[]⟩)] 49), ze (.st 2 (zt 9) (zt 70))])
  (.sem (.fork [zr 71 (.mv (zt 6)), zr 72 (.fa 1 (zt 9)), zr 73 (.ld (zt 72)), zr 76 (.mv (zt 7)), zr 77 (.fa 0 (zt 9)), zr 78 (.ld (zt 77))]
  rc32_2
  rc32_3))))
  (.run [zr 81 (.bin .add (zt 67) (zi 1)), zr 67 (.mv (zt 81))]))
def rc32_5 : RC := (.seq (.run [zr 68 (.bin .lss (zt 67) (zt 66))])
  (.seq (.cond (zt 68)
  .skip
  (.exit 2))
  rc32_4))
def rc32_6 : RC := (.seq (.run [zr 83 (.mv (zt 7)), zc 84 45 [(zt 83)], zr 82 (.mv (zt 84)), zr 85 (.ext 0 (zt 82)), zr 86 (.ext 1 (zt 82)), za 10 (zt 85), za 11 (zt 86)])
  (.seq (.run [zr 87 (.mv (zt 11)), zr 88 (.eq true (.iface []) (zt 87) (.const .nilIface))])
  (.cond (zt 88)
  (.seq (.run [zr 89 (.mv (zt 4)), zr 90 (.mv (zt 11)), zc 91 19 [(zt 90)], zr 92 (.mki 39 (zt 91)), za 2 (zt 89), za 3 (zt 92)])
  .ret)
  .skip)))
def rc32_7 : RC := (.seq (.block 5 (.seq (.run [zr 97 (.ia 1 (zt 93) (zt 95)), zr 98 (.ld (zt 97)), za 13 (zt 98)])
  (.seq (.run [zr 99 (.mv (zt 0)), zr 100 (.mv (zt 13)), zc 101 14 [(zt 99), (zt 100)], zr 102 (.bin .lss (zt 101) (zi 0))])
  (.cond (zt 102)
  (.seq (.run [zr 103 (.mv (zt 4)), zr 104 (.mki 39 (zi 3)), za 2 (zt 103), za 3 (zt 104)])
  .ret)
  .skip))))
  (.run [zr 105 (.bin .add (zt 95) (zi 1)), zr 95 (.mv (zt 105))]))
def rc32_8 : RC := (.seq (.run [zr 96 (.bin .lss (zt 95) (zt 94))])
  (.seq (.cond (zt 96)
  .skip
  (.exit 4))
  rc32_7))
def rc32_9 : RC := (.seq (.run [zr 93 (.mv (zt 6)), zr 94 (.lenl (zt 93)), zr 95 (.mv (zi 0))])
  (.block 4 (.loop rc32_8)))
def rc32_10 : RC := (.seq (.run [za 7 (.const (.slice none 0 0))])
  (.seq (.seq (.run [zr 61 (.fa 1 (zt 5)), zr 62 (.ld (zt 61)), zr 63 (.bin .eql (zt 62) (zi 1))])
  (.cond (zt 63)
  (.seq (.seq (.run [zr 64 (.fa 3 (zt 5)), zr 65 (.ld (zt 64)), zr 66 (.lenl (zt 65)), zr 67 (.mv (zi 0))])
  (.block 2 (.loop rc32_5)))
  rc32_6)
  .skip))
  rc32_9))
def rc32_11 : RC := (.seq (.run [za 6 (.const (.slice none 0 0))])
  (.seq (.seq (.run [zr 43 (.fa 1 (zt 5)), zr 44 (.ld (zt 43)), zr 45 (.bin .eql (zt 44) (zi 1)), zr 46 (.mv (zt 45)), zg 47 46 false (.fa 1 (zt 5)), zg 48 46 false (.ld (zt 47)), zg 49 46 false (.bin .eql (zt 48) (zi 2)), zr 50 (.pick (zt 46) (.const (.bool true)) (zt 49)), zr 51 (.mv (zt 50)), zg 52 51 false (.fa 1 (zt 5)), zg 53 51 false (.ld (zt 52)), zg 54 51 false (.bin .eql (zt 53) (zi 3)), zr 55 (.pick (zt 51) (.const (.bool true)) (zt 54))])
  (.cond (zt 55)
  (.run [zr 56 (.mv (zt 6)), zr 57 (.fa 5 (zt 5)), zr 58 (.ld (zt 57)), zf 59 (.bsl 9 1 1 [(.string ⟨#[]⟩)] [(0, 1, (zt 58))]), zf 60 (.app 9 1 16 (zt 56) (zt 59)), za 6 (zt 60)])
  .skip))
  rc32_10))
def rc32_12 : RC := (.seq (.block 1 (.seq (.run [zr 27 (.mv (zt 25)), zr 28 (.ia 7 (zt 23) (zt 25)), zr 29 (.ldn 7 (zt 28)), zf 5 (.al [(.string ⟨#[]⟩), (.int .i64 0), (.string ⟨#[]⟩), (.slice none 0 0), (.int .i64 0), (.string ⟨#[]⟩), (.int .i64 0)] 29), za 4 (zt 27), ze (.st 7 (zt 5) (zt 29))])
  (.seq (.seq (.run [zr 30 (.fa 0 (zt 5)), zr 31 (.ld (zt 30)), zr 32 (.bin .neq (zt 31) (.const (.string ⟨#[]⟩))), zr 33 (.mv (zt 32)), zg 34 33 true (.mv (zt 0)), zg 35 33 true (.fa 0 (zt 5)), zg 36 33 true (.ld (zt 35)), ⟨(some 37), (some (33, true)), (.c (.fn 14 [(zt 34), (zt 36)])), []⟩, zg 38 33 true (.mv (zt 4)), zg 39 33 true (.bin .neq (zt 37) (zt 38)), zr 40 (.pick (zt 33) (zt 39) (.const (.bool false)))])
  (.cond (zt 40)
  (.seq (.run [zr 41 (.mv (zt 4)), zr 42 (.mki 39 (zi 4)), za 2 (zt 41), za 3 (zt 42)])
  .ret)
  .skip))
  rc32_11)))
  (.run [zr 106 (.bin .add (zt 25) (zi 1)), zr 25 (.mv (zt 106))]))
def rc32_13 : RC := (.seq (.run [zr 26 (.bin .lss (zt 25) (zt 24))])
  (.seq (.cond (zt 26)
  .skip
  (.exit 0))
  rc32_12))
def rc32_14 : RC := (.seq (.run [za 2 (zi 0), za 3 (.const .nilIface)])
  .ret)
def rc32_15 : RC := (.seq (.seq (.run [zr 23 (.mv (zt 0)), zr 24 (.lenl (zt 23)), zr 25 (.mv (zi 0))])
  (.block 0 (.loop rc32_13)))
  rc32_14)
def rc32 : RC := (.seq (.run [za 2 (zi 0), za 3 (.const .nilIface)])
  (.seq (.seq (.run [zr 14 (.mv (zt 0)), zr 15 (.lenl (zt 14)), zr 16 (.bin .eql (zt 15) (zi 0)), zr 17 (.mv (zt 16)), zg 18 17 false (.mv (zt 0)), zg 19 17 false (.lenl (zt 18)), zg 20 17 false (.bin .gtr (zt 19) (zi 64)), zr 21 (.pick (zt 17) (.const (.bool true)) (zt 20))])
  (.cond (zt 21)
  (.seq (.run [zr 22 (.mki 39 (zi 7)), za 2 (zi (-1)), za 3 (zt 22)])
  .ret)
  .skip))
  rc32_15))
def ce32 : List (Nat × List Nat × List Nat) := [(16, [0, 1, 2, 5, 6, 7, 1000, 3, 1000, 4, 8, 9, 10, 11, 1001, 8, 4, 9, 10, 11, 1001, 8, 3, 4, 9, 10, 11], [0, 0, 2, 6, 15, 0, 0, 64, 192, 511, 1023, 2047])]
def ro32 : List RO := [(.mv (zt 2)), (.mv (zt 3))]
theorem ok32 : okFn Tryz.prog 32 107 ce32 = some (rc32, ro32) := by kernel_rfl
/-! lifeline/lifelinelaw17.label -/

def rc33 : RC := (.seq (.run [za 2 (.const (.string ⟨#[]⟩))])
  (.seq (.run [zr 3 (.mv (zt 0)), zr 4 (.bin .add (zi 97) (zt 3)), zr 5 (.cvi .i32 (zt 4)), zr 6 (.i2s (zt 5)), zr 7 (.bin .add (.const (.string ⟨#[115]⟩)) (zt 6)), za 2 (zt 7)])
  .ret))
def ce33 : List (Nat × List Nat × List Nat) := []
def ro33 : List RO := [(.mv (zt 2))]
theorem ok33 : okFn Tryz.prog 33 8 ce33 = some (rc33, ro33) := by kernel_rfl
/-! lifeline/lifelinelaw06.Make -/

def rc34 : RC := (.seq (.run [za 4 (.const (.string ⟨#[]⟩)), zf 5 (.al [(.int .i64 0), (.int .u64 0), (.int .u64 0), (.int .u64 0), (.int .u64 0), (.slice none 0 0)] 76)])
  (.seq (.run [zr 10 (.mv (zt 0)), zr 11 (.mv (zt 1)), zc 12 46 [(zt 10), (zt 11)], zr 9 (.mv (zt 12)), zr 13 (.ext 0 (zt 9)), zr 14 (.ext 1 (zt 9)), zr 15 (.ext 2 (zt 9)), zf 7 (.al [(.int .i64 0), (.int .u64 0), (.int .u64 0), (.int .u64 0), (.int .u64 0), (.slice none 0 0)] 76), za 6 (zt 13), ze (.st 6 (zt 7) (zt 14)), za 8 (zt 15)])
  (.seq (.run [zr 16 (.mv (zt 6)), zr 17 (.ldn 6 (zt 7)), ⟨(some 4), none, (.a (zt 16)), [(17, none, .ldn 6 (zt 7))]⟩, ze (.st 6 (zt 5) (zt 17))])
  .ret)))
def ce34 : List (Nat × List Nat × List Nat) := [(2, [0, 1, 2, 3], [0, 0, 1, 7])]
def ro34 : List RO := [(.mv (zt 4)), (.ldn 6 (zt 5))]
theorem ok34 : okFn Tryz.prog 34 18 ce34 = some (rc34, ro34) := by kernel_rfl
/-! lifeline/token.Cut -/
def rc35_0 : RC := (.block 1 (.run [zr 53 (.mv (zt 5)), zr 54 (.bin .add (zt 53) (zi 1)), za 5 (zt 54)]))
def rc35_1 : RC := (.seq (.seq (.run [zr 43 (.mv (zt 5)), zr 44 (.mv (zt 0)), zr 45 (.lens (zt 44)), zr 46 (.bin .lss (zt 43) (zt 45)), zr 47 (.mv (zt 46)), zg 48 47 true (.mv (zt 0)), zg 49 47 true (.mv (zt 5)), zg 50 47 true (.ixs (zt 48) (zt 49)), zg 51 47 true (.bin .neq (zt 50) (.const (.int .u8 10))), zr 52 (.pick (zt 47) (zt 51) (.const (.bool false)))])
  (.cond (zt 52)
  .skip
  (.exit 0)))
  rc35_0)
def rc35_2 : RC := (.seq (.run [zr 66 (.mv (zt 5)), zr 67 (.fa 3 (zt 6)), ze (.st 1 (zt 67) (zt 66))])
  (.seq (.run [zr 68 (.mv (zt 4)), zr 69 (.ldn 4 (zt 6)), zf 70 (.bsl 87 4 1 [(.int .i64 0), (.string ⟨#[]⟩), (.int .i64 0), (.int .i64 0)] [(0, 4, (zt 69))]), zf 71 (.app 87 4 40 (zt 68) (zt 70)), za 4 (zt 71)])
  (.seq (.run [zr 72 (.mv (zt 5)), zr 73 (.mv (zt 7)), zr 74 (.bin .add (zt 72) (zt 73)), za 5 (zt 74)])
  (.goto 0))))
def rc35_3 : RC := (.seq (.run [zr 56 (.mv (zt 0)), zr 57 (.mv (zt 5)), zr 58 (.sls (zt 56) (some (zt 57)) none), zc 59 48 [(zt 58)], zr 55 (.mv (zt 59)), zr 60 (.ext 0 (zt 55)), zr 61 (.ext 1 (zt 55)), zf 6 (.al [(.int .i64 0), (.string ⟨#[]⟩), (.int .i64 0), (.int .i64 0)] 87), ze (.st 4 (zt 6) (zt 60)), za 7 (zt 61)])
  (.seq (.seq (.run [zr 62 (.mv (zt 7)), zr 63 (.bin .eql (zt 62) (zi 0))])
  (.cond (zt 63)
  (.seq (.run [zr 64 (.mv (zt 5)), zc 65 47 [(zi 1), (zt 64)], za 2 (.const (.slice none 0 0)), za 3 (zt 65)])
  .ret)
  .skip))
  rc35_2))
def rc35_4 : RC := (.seq (.seq (.run [zr 39 (.mv (zt 0)), zr 40 (.mv (zt 5)), zr 41 (.ixs (zt 39) (zt 40)), zr 42 (.bin .eql (zt 41) (.const (.int .u8 35)))])
  (.cond (zt 42)
  (.seq (.block 0 (.loop rc35_1))
  (.goto 0))
  .skip))
  rc35_3)
def rc35_5 : RC := (.seq (.seq (.run [zr 21 (.mv (zt 0)), zr 22 (.mv (zt 5)), zr 23 (.ixs (zt 21) (zt 22)), zr 24 (.bin .eql (zt 23) (.const (.int .u8 32))), zr 25 (.mv (zt 24)), zg 26 25 false (.mv (zt 0)), zg 27 25 false (.mv (zt 5)), zg 28 25 false (.ixs (zt 26) (zt 27)), zg 29 25 false (.bin .eql (zt 28) (.const (.int .u8 9))), zr 30 (.pick (zt 25) (.const (.bool true)) (zt 29)), zr 31 (.mv (zt 30)), zg 32 31 false (.mv (zt 0)), zg 33 31 false (.mv (zt 5)), zg 34 31 false (.ixs (zt 32) (zt 33)), zg 35 31 false (.bin .eql (zt 34) (.const (.int .u8 10))), zr 36 (.pick (zt 31) (.const (.bool true)) (zt 35))])
  (.cond (zt 36)
  (.seq (.run [zr 37 (.mv (zt 5)), zr 38 (.bin .add (zt 37) (zi 1)), za 5 (zt 38)])
  (.goto 0))
  .skip))
  rc35_4)
def rc35_6 : RC := (.seq (.seq (.run [zr 12 (.mv (zt 5)), zr 13 (.mv (zt 0)), zr 14 (.lens (zt 13)), zr 15 (.bin .eql (zt 12) (zt 14))])
  (.cond (zt 15)
  (.seq (.run [zr 16 (.mv (zt 4)), zr 17 (.mv (zt 5)), zr 18 (.bld [(.int .i64 0), (.string ⟨#[]⟩), (.int .i64 0), (.int .i64 0)] [(0, 1, (zi 0)), (3, 1, (zt 17))]), zf 19 (.bsl 87 4 1 [(.int .i64 0), (.string ⟨#[]⟩), (.int .i64 0), (.int .i64 0)] [(0, 4, (zt 18))]), zf 20 (.app 87 4 40 (zt 16) (zt 19)), za 2 (zt 20), za 3 (.const .nilIface)])
  .ret)
  .skip))
  rc35_5)
def rc35_7 : RC := (.seq (.run [za 4 (.const (.slice none 0 0))])
  (.seq (.run [za 5 (zi 0)])
  (.seq (.label 0)
  rc35_6)))
def rc35_8 : RC := (.seq .skip
  rc35_6)
def rc35 : RC := (.seq (.run [za 2 (.const (.slice none 0 0)), za 3 (.const .nilIface)])
  (.jumps (.seq (.seq (.run [zr 8 (.mv (zt 0)), zr 9 (.lens (zt 8)), zr 10 (.bin .gtr (zt 9) (zi 4096))])
  (.cond (zt 10)
  (.seq (.run [zc 11 47 [(zi 7), (zi 0)], za 2 (.const (.slice none 0 0)), za 3 (zt 11)])
  .ret)
  .skip))
  rc35_7) 0 rc35_8 0 rc35_8))
def ce35 : List (Nat × List Nat × List Nat) := []
def ro35 : List RO := [(.mv (zt 2)), (.mv (zt 3))]
theorem ok35 : okFn Tryz.prog 35 75 ce35 = some (rc35, ro35) := by kernel_rfl
/-! (*lifeline/dialog.parser).step -/
def rc36_0 : RC := (.block 1 (.run [zr 47 (.mv (zt 5)), zr 48 (.bin .add (zt 47) (zi 1)), za 5 (zt 48)]))
def rc36_1 : RC := (.seq (.seq (.run [zr 34 (.mv (zt 5)), zc 35 51 [], zr 36 (.lenl (zt 35)), zr 37 (.bin .lss (zt 34) (zt 36)), zr 38 (.mv (zt 37)), zg 40 38 true (.mv (zt 5)), zg 43 38 true (.fa 1 (zt 4)), zg 44 38 true (.ld (zt 43)), ⟨(some 39), (some (38, true)), (.c (.fn 51 [])), [(44, (some (38, true)), .ld (zt 43))]⟩, zg 41 38 true (.ia 1 (zt 39) (zt 40)), zg 42 38 true (.ld (zt 41)), zg 45 38 true (.bin .neq (zt 42) (zt 44)), zr 46 (.pick (zt 38) (zt 45) (.const (.bool false)))])
  (.cond (zt 46)
  .skip
  (.exit 0)))
  rc36_0)
def rc36_2 : RC := (.cond (zt 97)
  .skip
  (.seq (.run [zr 53 (.mv (zt 0)), zr 54 (.nck (zt 53)), zr 55 (.fa 2 (zt 54)), zr 56 (.ld (zt 55)), zr 57 (.eq false (.iface []) (zt 56) (.const .nilIface))])
  (.cond (zt 57)
  (.run [zr 58 (.mv (zt 0)), zr 59 (.fa 3 (zt 4)), zr 60 (.ld (zt 59)), zc 61 47 [(zi 3), (zt 60)], zr 62 (.nck (zt 58)), zr 63 (.fa 2 (zt 62)), ze (.st 1 (zt 63) (zt 61))])
  .skip)))
def rc36_3 : RC := (.seq (.run [zr 100 (.mv (zt 0)), zc 101 49 [(zt 100), (zi 4), (.const (.string ⟨#[59]⟩))]])
  (.seq (.run [zr 102 (.ldn 7 (zt 3)), ze (.st 7 (zt 2) (zt 102))])
  .ret))
def rc36_4 : RC := (.seq (.run [zr 49 (.mv (zt 5)), zr 50 (.fa 1 (zt 3)), ze (.st 1 (zt 50) (zt 49))])
  (.seq (.seq (.run [zr 51 (.fa 1 (zt 3)), zr 52 (.ld (zt 51))])
  (.block 2 (.seq (.run [zr 65 (.bin .eql (zt 52) (zi 0)), za 64 (zt 65)])
  (.cond (zt 64)
  (.run [zr 66 (.mv (zt 0)), zc 67 49 [(zt 66), (zi 3), (.const (.string ⟨#[]⟩))], zr 68 (.fld 1 0 (zt 67)), zr 69 (.fa 2 (zt 3)), ze (.st 1 (zt 69) (zt 68))])
  (.seq (.run [zr 71 (.bin .eql (zt 52) (zi 1)), za 70 (zt 71)])
  (.cond (zt 70)
  (.seq (.run [zr 72 (.mv (zt 0)), zc 73 52 [(zt 72)], zr 74 (.fa 3 (zt 3)), ze (.st 1 (zt 74) (zt 73))])
  (.seq (.run [zr 75 (.mv (zt 0)), zc 76 49 [(zt 75), (zi 1), (.const (.string ⟨#[97, 102, 116, 101, 114]⟩))]])
  (.seq (.run [zr 77 (.mv (zt 0)), zc 78 53 [(zt 77), (zi 99)], zr 79 (.fa 4 (zt 3)), ze (.st 1 (zt 79) (zt 78))])
  (.run [zr 80 (.mv (zt 0)), zc 81 54 [(zt 80)], zr 82 (.fa 5 (zt 3)), ze (.st 1 (zt 82) (zt 81))]))))
  (.seq (.run [zr 84 (.bin .eql (zt 52) (zi 2)), za 83 (zt 84)])
  (.cond (zt 83)
  (.run [zr 85 (.mv (zt 0)), zc 86 49 [(zt 85), (zi 1), (.const (.string ⟨#[]⟩))], zr 87 (.fld 1 0 (zt 86)), zr 88 (.fa 5 (zt 3)), ze (.st 1 (zt 88) (zt 87))])
  (.seq (.run [zr 90 (.bin .eql (zt 52) (zi 3)), za 89 (zt 90)])
  (.cond (zt 89)
  (.seq (.run [zr 91 (.mv (zt 0)), zc 92 53 [(zt 91), (zi 9)], zr 93 (.fa 4 (zt 3)), ze (.st 1 (zt 93) (zt 92))])
  (.run [zr 94 (.mv (zt 0)), zc 95 54 [(zt 94)], zr 96 (.fa 5 (zt 3)), ze (.st 1 (zt 96) (zt 95))]))
  (.seq (.seq (.run [zr 98 (.bin .eql (zt 52) (zi 4)), za 97 (zt 98)])
  (.cond (zt 97)
  .skip
  (.run [zr 99 (.bin .eql (zt 52) (zi 5)), za 97 (zt 99)])))
  rc36_2)))))))))))
  rc36_3))
def rc36_5 : RC := (.seq (.run [za 5 (zi 0)])
  (.seq (.block 0 (.loop rc36_1))
  rc36_4))
def rc36 : RC := (.seq (.run [zf 2 (.al [(.string ⟨#[]⟩), (.int .i64 0), (.string ⟨#[]⟩), (.slice none 0 0), (.int .i64 0), (.string ⟨#[]⟩), (.int .i64 0)] 29)])
  (.seq (.run [zr 6 (.mv (zt 0)), zr 7 (.nck (zt 6)), zr 8 (.fa 0 (zt 7)), zr 9 (.ld (zt 8)), zr 10 (.mv (zt 0)), zr 11 (.nck (zt 10)), zr 12 (.fa 1 (zt 11)), zr 13 (.ld (zt 12)), zr 14 (.ia 4 (zt 9) (zt 13)), zr 15 (.fa 3 (zt 14)), zr 16 (.ld (zt 15)), zr 17 (.bld [(.string ⟨#[]⟩), (.int .i64 0), (.string ⟨#[]⟩), (.slice none 0 0), (.int .i64 0), (.string ⟨#[]⟩), (.int .i64 0)] [(6, 1, (zt 16))]), ⟨(some 3), none, (.e (.al [(.string ⟨#[]⟩), (.int .i64 0), (.string ⟨#[]⟩), (.slice none 0 0), (.int .i64 0), (.string ⟨#[]⟩), (.int .i64 0)] 29)), [(9, none, .ld (zt 8)), (13, none, .ld (zt 12)), (16, none, .ld (zt 15))]⟩, ze (.st 7 (zt 3) (zt 17))])
  (.seq (.run [zr 18 (.mv (zt 0)), zc 19 49 [(zt 18), (zi 1), (.const (.string ⟨#[]⟩))], zf 4 (.al [(.int .i64 0), (.string ⟨#[]⟩), (.int .i64 0), (.int .i64 0)] 87), ze (.st 4 (zt 4) (zt 19))])
  (.seq (.seq (.run [zr 20 (.mv (zt 0)), zc 21 50 [(zt 20), (zi 4), (.const (.string ⟨#[58]⟩))]])
  (.cond (zt 21)
  (.seq (.run [zr 22 (.mv (zt 0)), zr 23 (.nck (zt 22)), zr 24 (.fa 1 (zt 23)), zr 25 (.ld (zt 24)), zr 26 (.bin .add (zt 25) (zi 1)), zr 27 (.nck (zt 22)), zr 28 (.fa 1 (zt 27)), ze (.st 1 (zt 28) (zt 26))])
  (.seq (.run [zr 29 (.fa 1 (zt 4)), zr 30 (.ld (zt 29)), zr 31 (.fa 0 (zt 3)), ze (.st 1 (zt 31) (zt 30))])
  (.run [zr 32 (.mv (zt 0)), zc 33 49 [(zt 32), (zi 1), (.const (.string ⟨#[]⟩))], ze (.st 4 (zt 4) (zt 33))])))
  .skip))
  rc36_5))))
def ce36 : List (Nat × List Nat × List Nat) := [(1, [0, 1, 2, 3, 4, 5, 6, 7, 8, 9, 10, 11, 12, 13], [0, 1, 3, 7, 0, 16, 48, 112, 255, 511, 1023, 2047, 0, 8191]), (8, [0, 1, 2, 3, 4, 6, 9, 10, 5, 7, 8, 11, 12], [0, 0, 2, 7, 15, 31, 31, 127, 255, 31, 543, 2047, 4095])]
def ro36 : List RO := [(.ldn 7 (zt 2))]
theorem ok36 : okFn Tryz.prog 36 103 ce36 = some (rc36, ro36) := by kernel_rfl
/-! errors.As -/
def rc37_0 : RC := (.seq (.run [zr 37 (.mv (zt 0)), zr 38 (.mv (zt 1)), zr 39 (.ldn 3 (zt 5)), zr 40 (.mv (zt 7)), zc 41 58 [(zt 37), (zt 38), (zt 39), (zt 40)], za 4 (zt 41)])
  .ret)
def rc37_1 : RC := (.seq (.run [zr 25 (.mv (zt 6)), ⟨(some 26), none, (.c (.inv (zt 25) "Elem" [])), []⟩, za 7 (zt 26)])
  (.seq (.seq (.run [zr 27 (.mv (zt 7)), ⟨(some 28), none, (.c (.inv (zt 27) "Kind" [])), []⟩, zr 29 (.bin .neq (zt 28) (.const (.int .u8 20))), zr 30 (.mv (zt 29)), zg 31 30 true (.mv (zt 7)), zg 32 30 true (.ld (.global 0)), ⟨(some 33), (some (30, true)), (.c (.inv (zt 31) "Implements" [(zt 32)])), []⟩, zg 34 30 true (.not (zt 33)), zr 35 (.pick (zt 30) (zt 34) (.const (.bool false)))])
  (.cond (zt 35)
  (.run [zr 36 (.mki 9 (.const (.string ⟨#[101, 114, 114, 111, 114, 115, 58, 32, 42, 116, 97, 114, 103, 101, 116, 32, 109, 117, 115, 116, 32, 98, 101, 32, 105, 110, 116, 101, 114, 102, 97, 99, 101, 32, 111, 114, 32, 105, 109, 112, 108, 101, 109, 101, 110, 116, 32, 101, 114, 114, 111, 114]⟩))), ⟨none, none, .bad, []⟩])
  .skip))
  rc37_0))
def rc37_2 : RC := (.seq (.run [zr 13 (.mv (zt 1)), zc 14 55 [(zt 13)], zf 5 (.al [(.pointer none), (.pointer none), (.int .u64 0)] 124), ze (.st 3 (zt 5) (zt 14))])
  (.seq (.run [zr 15 (.ldn 3 (zt 5)), zc 16 56 [(zt 15)], za 6 (zt 16)])
  (.seq (.seq (.run [zr 17 (.mv (zt 6)), ⟨(some 18), none, (.c (.inv (zt 17) "Kind" [])), []⟩, zr 19 (.bin .neq (zt 18) (.const (.int .u8 22))), zr 20 (.mv (zt 19)), zg 21 20 false (.ldn 3 (zt 5)), ⟨(some 22), (some (20, false)), (.c (.fn 57 [(zt 21)])), []⟩, zr 23 (.pick (zt 20) (.const (.bool true)) (zt 22))])
  (.cond (zt 23)
  (.run [zr 24 (.mki 9 (.const (.string ⟨#[101, 114, 114, 111, 114, 115, 58, 32, 116, 97, 114, 103, 101, 116, 32, 109, 117, 115, 116, 32, 98, 101, 32, 97, 32, 110, 111, 110, 45, 110, 105, 108, 32, 112, 111, 105, 110, 116, 101, 114]⟩))), ⟨none, none, .bad, []⟩])
  .skip))
  rc37_1)))
def rc37_3 : RC := (.seq (.seq (.run [zr 10 (.mv (zt 1)), zr 11 (.eq false (.iface []) (zt 10) (.const .nilIface))])
  (.cond (zt 11)
  (.run [zr 12 (.mki 9 (.const (.string ⟨#[101, 114, 114, 111, 114, 115, 58, 32, 116, 97, 114, 103, 101, 116, 32, 99, 97, 110, 110, 111, 116, 32, 98, 101, 32, 110, 105, 108]⟩))), ⟨none, none, .bad, []⟩])
  .skip))
  rc37_2)
def rc37 : RC := (.seq (.run [za 4 (.const (.bool false))])
  (.seq (.seq (.run [zr 8 (.mv (zt 0)), zr 9 (.eq false (.iface []) (zt 8) (.const .nilIface))])
  (.cond (zt 9)
  (.seq (.run [za 4 (.const (.bool false))])
  .ret)
  .skip))
  rc37_3))
def ce37 : List (Nat × List Nat × List Nat) := []
def ro37 : List RO := [(.mv (zt 4))]
theorem ok37 : okFn Tryz.prog 37 42 ce37 = some (rc37, ro37) := by kernel_rfl
/-! (*strings.Builder).WriteString -/

def rc38 : RC := (.seq (.run [za 4 (zi 0), za 5 (.const .nilIface)])
  (.seq (.run [zr 6 (.mv (zt 0)), zc 7 59 [(zt 6)]])
  (.seq (.run [zr 8 (.mv (zt 0)), zr 9 (.mv (zt 0)), zr 10 (.nck (zt 9)), zr 11 (.fa 1 (zt 10)), zr 12 (.ld (zt 11)), zr 13 (.mv (zt 1)), zf 14 (.app 5 1 1 (zt 12) (zt 13)), zr 15 (.nck (zt 8)), zr 16 (.fa 1 (zt 15)), ze (.st 1 (zt 16) (zt 14))])
  (.seq (.run [zr 17 (.mv (zt 1)), zr 18 (.lens (zt 17)), za 4 (zt 18), za 5 (.const .nilIface)])
  .ret))))
def ce38 : List (Nat × List Nat × List Nat) := []
def ro38 : List RO := [(.mv (zt 4)), (.mv (zt 5))]
theorem ok38 : okFn Tryz.prog 38 19 ce38 = some (rc38, ro38) := by kernel_rfl
/-! lifeline/dialog.step -/
def rc39_0 : RC := (.seq (.block 2 (.seq (.run [zr 48 (.ia 2 (zt 44) (zt 46)), zr 49 (.ldn 2 (zt 48)), zf 9 (.al [(.string ⟨#[]⟩), (.string ⟨#[]⟩)] 49), ze (.st 2 (zt 9) (zt 49))])
  (.seq (.run [zr 51 (.fa 0 (zt 9)), zr 52 (.ld (zt 51)), zc 53 41 [(zt 52)], zr 50 (.mv (zt 53)), zr 54 (.ext 0 (zt 50)), zr 55 (.ext 1 (zt 50)), za 10 (zt 54), za 11 (zt 55)])
  (.run [zr 56 (.mv (zt 7)), zr 57 (.mv (zt 10)), zr 58 (.bin .add (zt 57) (.const (.string ⟨#[32, 103, 111, 32]⟩))), zr 59 (.fa 1 (zt 9)), zr 60 (.ld (zt 59)), zr 61 (.bin .add (zt 58) (zt 60)), zf 62 (.bsl 9 1 1 [(.string ⟨#[]⟩)] [(0, 1, (zt 61))]), zf 63 (.app 9 1 16 (zt 56) (zt 62)), za 7 (zt 63)]))))
  (.run [zr 64 (.bin .add (zt 46) (zi 1)), zr 46 (.mv (zt 64))]))
def rc39_1 : RC := (.seq (.run [zr 47 (.bin .lss (zt 46) (zt 45))])
  (.seq (.cond (zt 47)
  .skip
  (.exit 1))
  rc39_0))
def rc39_2 : RC := (.seq (.run [zr 98 (.mv (zt 3)), zr 99 (.bin .add (zt 98) (.const (.string ⟨#[59, 10]⟩))), za 2 (zt 99)])
  .ret)
def rc39_3 : RC := (.seq (.run [zr 18 (.fa 1 (zt 1)), zr 19 (.ld (zt 18)), zr 20 (.mn (zt 19) (zi 5)), zr 21 (.mx (zi 0) (zt 20)), za 4 (zt 21)])
  (.seq (.run [zr 22 (.mv (zt 3)), zc 23 51 [], zr 24 (.mv (zt 4)), zr 25 (.ia 1 (zt 23) (zt 24)), zr 26 (.ld (zt 25)), zr 27 (.bin .add (zt 22) (zt 26)), za 3 (zt 27)])
  (.seq (.seq (.run [zr 28 (.mv (zt 4))])
  (.block 0 (.seq (.run [zr 30 (.bin .eql (zt 28) (zi 0)), za 29 (zt 30)])
  (.cond (zt 29)
  (.seq (.run [zr 32 (.fa 2 (zt 1)), zr 33 (.ld (zt 32)), zc 34 41 [(zt 33)], zr 31 (.mv (zt 34)), zr 35 (.ext 0 (zt 31)), zr 36 (.ext 1 (zt 31)), za 5 (zt 35), za 6 (zt 36)])
  (.run [zr 37 (.mv (zt 3)), zr 38 (.mv (zt 5)), zr 39 (.bin .add (.const (.string ⟨#[32]⟩)) (zt 38)), zr 40 (.bin .add (zt 37) (zt 39)), za 3 (zt 40)]))
  (.seq (.run [zr 42 (.bin .eql (zt 28) (zi 1)), za 41 (zt 42)])
  (.cond (zt 41)
  (.seq (.run [za 7 (.const (.slice none 0 0))])
  (.seq (.seq (.run [zr 43 (.fa 3 (zt 1)), zr 44 (.ld (zt 43)), zr 45 (.lenl (zt 44)), zr 46 (.mv (zi 0))])
  (.block 1 (.loop rc39_1)))
  (.run [zr 65 (.mv (zt 3)), zr 66 (.mv (zt 7)), zr 70 (.fa 4 (zt 1)), zr 71 (.ld (zt 70)), zr 75 (.fa 5 (zt 1)), zr 76 (.ld (zt 75)), ⟨(some 67), none, (.c (.fn 60 [(zt 66), (.const (.string ⟨#[44, 32]⟩))])), [(71, none, .ld (zt 70)), (76, none, .ld (zt 75))]⟩, zr 68 (.bin .add (.const (.string ⟨#[32]⟩)) (zt 67)), zr 69 (.bin .add (zt 68) (.const (.string ⟨#[32, 97, 102, 116, 101, 114, 32]⟩))), ⟨(some 72), none, (.c (.fn 61 [(zt 71)])), [(76, none, .ld (zt 75))]⟩, zr 73 (.bin .add (zt 69) (zt 72)), zr 74 (.bin .add (zt 73) (.const (.string ⟨#[32, 103, 111, 32]⟩))), zr 77 (.bin .add (zt 74) (zt 76)), zr 78 (.bin .add (zt 65) (zt 77)), za 3 (zt 78)])))
  (.seq (.run [zr 80 (.bin .eql (zt 28) (zi 2)), za 79 (zt 80)])
  (.cond (zt 79)
  (.run [zr 81 (.mv (zt 3)), zr 82 (.fa 5 (zt 1)), zr 83 (.ld (zt 82)), zr 84 (.bin .add (.const (.string ⟨#[32]⟩)) (zt 83)), zr 85 (.bin .add (zt 81) (zt 84)), za 3 (zt 85)])
  (.seq (.run [zr 87 (.bin .eql (zt 28) (zi 3)), za 86 (zt 87)])
  (.cond (zt 86)
  (.run [zr 88 (.mv (zt 3)), zr 89 (.fa 4 (zt 1)), zr 90 (.ld (zt 89)), zr 94 (.fa 5 (zt 1)), zr 95 (.ld (zt 94)), ⟨(some 91), none, (.c (.fn 61 [(zt 90)])), [(95, none, .ld (zt 94))]⟩, zr 92 (.bin .add (.const (.string ⟨#[32]⟩)) (zt 91)), zr 93 (.bin .add (zt 92) (.const (.string ⟨#[32, 103, 111, 32]⟩))), zr 96 (.bin .add (zt 93) (zt 95)), zr 97 (.bin .add (zt 88) (zt 96)), za 3 (zt 97)])
  .skip))))))))))
  rc39_2)))
def rc39 : RC := (.seq (.run [zf 1 (.bx 29 (zt 0)), za 2 (.const (.string ⟨#[]⟩))])
  (.seq (.run [za 3 (.const (.string ⟨#[]⟩))])
  (.seq (.seq (.run [zr 12 (.fa 0 (zt 1)), zr 13 (.ld (zt 12)), zr 14 (.bin .neq (zt 13) (.const (.string ⟨#[]⟩)))])
  (.cond (zt 14)
  (.run [zr 15 (.fa 0 (zt 1)), zr 16 (.ld (zt 15)), zr 17 (.bin .add (zt 16) (.const (.string ⟨#[58, 32]⟩))), za 3 (zt 17)])
  .skip))
  rc39_3)))
def ce39 : List (Nat × List Nat × List Nat) := [(18, [0, 1, 5, 6, 10, 11, 2, 3, 4, 7, 8, 9, 12, 13, 14], [0, 0, 2, 6, 14, 0, 32, 102, 254, 510, 0, 1024, 4094, 8191, 16383]), (22, [0, 1, 2, 6, 7, 3, 4, 5, 8, 9, 10], [0, 0, 2, 6, 14, 30, 0, 64, 254, 511, 1023])]
def ro39 : List RO := [(.mv (zt 2))]
theorem ok39 : okFn Tryz.prog 39 100 ce39 = some (rc39, ro39) := by kernel_rfl
/-! (*strings.Builder).String -/

def rc40 : RC := (.seq (.run [za 2 (.const (.string ⟨#[]⟩))])
  (.seq (.run [zr 3 (.mv (zt 0)), zr 4 (.nck (zt 3)), zr 5 (.fa 1 (zt 4)), zr 6 (.ld (zt 5)), zr 7 (.usd (zt 6)), zr 8 (.mv (zt 0)), zr 9 (.nck (zt 8)), zr 10 (.fa 1 (zt 9)), zr 11 (.ld (zt 10)), zr 12 (.lenl (zt 11)), zf 13 (.ust 5 (zt 7) (zt 12)), za 2 (zt 13)])
  .ret))
def ce40 : List (Nat × List Nat × List Nat) := [(1, [0, 1, 2, 3, 4, 5, 6, 7, 8, 9, 10, 11], [0, 1, 3, 7, 15, 0, 32, 96, 224, 480, 1023, 2047])]
def ro40 : List RO := [(.mv (zt 2))]
theorem ok40 : okFn Tryz.prog 40 14 ce40 = some (rc40, ro40) := by kernel_rfl
/-! lifeline/token.Quote -/
def rc41_0 : RC := (.seq (.block 1 (.seq (.run [zr 12 (.mv (zt 10)), za 5 (zt 12)])
  (.seq (.run [zr 13 (.mv (zt 0)), zr 14 (.mv (zt 5)), zr 15 (.ixs (zt 13) (zt 14)), za 6 (zt 15)])
  (.block 2 (.seq (.run [zr 19 (.mv (zt 6)), zr 20 (.bin .eql (zt 19) (.const (.int .u8 13))), za 18 (zt 20)])
  (.cond (zt 18)
  (.run [zc 21 38 [(zt 4), (.const (.string ⟨#[92, 114]⟩))]])
  (.seq (.run [zr 23 (.mv (zt 6)), zr 24 (.bin .eql (zt 23) (.const (.int .u8 10))), za 22 (zt 24)])
  (.cond (zt 22)
  (.run [zc 25 38 [(zt 4), (.const (.string ⟨#[92, 110]⟩))]])
  (.seq (.run [zr 27 (.mv (zt 6)), zr 28 (.bin .lss (zt 27) (.const (.int .u8 32))), zr 29 (.mv (zt 28)), zg 30 29 false (.mv (zt 6)), zg 31 29 false (.bin .gtr (zt 30) (.const (.int .u8 126))), zr 32 (.pick (zt 29) (.const (.bool true)) (zt 31)), za 26 (zt 32)])
  (.cond (zt 26)
  (.seq (.run [za 2 (.const (.string ⟨#[]⟩)), za 3 (.const (.bool false))])
  .ret)
  (.seq (.run [zr 34 (.mv (zt 6)), zr 35 (.bin .eql (zt 34) (.const (.int .u8 34))), zr 36 (.mv (zt 35)), zg 37 36 false (.mv (zt 6)), zg 38 36 false (.bin .eql (zt 37) (.const (.int .u8 92))), zr 39 (.pick (zt 36) (.const (.bool true)) (zt 38)), za 33 (zt 39)])
  (.cond (zt 33)
  (.run [zr 40 (.mv (zt 0)), zr 41 (.mv (zt 5)), zr 42 (.mv (zt 5)), zr 43 (.bin .add (zt 42) (zi 1)), zr 44 (.sls (zt 40) (some (zt 41)) (some (zt 43))), zr 45 (.bin .add (.const (.string ⟨#[92]⟩)) (zt 44)), zc 46 38 [(zt 4), (zt 45)]])
  (.run [zr 16 (.mv (zt 6)), zc 17 62 [(zt 4), (zt 16)]])))))))))))))
  (.run [zr 47 (.bin .add (zt 10) (zi 1)), zr 10 (.mv (zt 47))]))
def rc41_1 : RC := (.seq (.run [zr 11 (.bin .lss (zt 10) (zt 9))])
  (.seq (.cond (zt 11)
  .skip
  (.exit 0))
  rc41_0))
def rc41_2 : RC := (.seq (.run [zc 48 40 [(zt 4)], zr 49 (.bin .add (zt 48) (.const (.string ⟨#[34]⟩))), za 2 (zt 49), za 3 (.const (.bool true))])
  .ret)
def rc41 : RC := (.seq (.run [za 2 (.const (.string ⟨#[]⟩)), za 3 (.const (.bool false))])
  (.seq (.run [zf 4 (.al [(.pointer none), (.slice none 0 0)] 96)])
  (.seq (.run [zc 7 62 [(zt 4), (.const (.int .u8 34))]])
  (.seq (.seq (.run [zr 8 (.mv (zt 0)), zr 9 (.lens (zt 8)), zr 10 (.mv (zi 0))])
  (.block 0 (.loop rc41_1)))
  rc41_2))))
def ce41 : List (Nat × List Nat × List Nat) := []
def ro41 : List RO := [(.mv (zt 2)), (.mv (zt 3))]
theorem ok41 : okFn Tryz.prog 41 50 ce41 = some (rc41, ro41) := by kernel_rfl
/-! (*lifeline/play.Play).run -/
def rc42_0 : RC := (.seq (.block 1 (.seq (.seq (.run [zr 19 (.mv (zt 4)), zr 20 (.bin .eql (zt 19) (zi 256)), zr 21 (.mv (zt 20)), zg 22 21 false (.mv (zt 0)), zg 23 21 false (.nck (zt 22)), zg 24 21 false (.fa 1 (zt 23)), zg 25 21 false (.ld (zt 24)), zg 26 21 false (.mv (zt 0)), zg 27 21 false (.nck (zt 26)), zg 28 21 false (.fa 0 (zt 27)), zg 29 21 false (.ld (zt 28)), zg 30 21 false (.lenl (zt 29)), zg 31 21 false (.bin .geq (zt 25) (zt 30)), zr 32 (.pick (zt 21) (.const (.bool true)) (zt 31))])
  (.cond (zt 32)
  (.seq (.run [zr 33 (.mv (zt 0)), zr 34 (.nck (zt 33)), zr 35 (.fa 6 (zt 34)), ze (.st 1 (zt 35) (zi 2))])
  (.exit 0))
  .skip))
  (.run [zr 36 (.mv (zt 3)), zr 37 (.mv (zt 0)), zr 38 (.mv (zt 0)), zr 39 (.nck (zt 38)), zr 40 (.fa 0 (zt 39)), zr 41 (.ld (zt 40)), zr 42 (.mv (zt 0)), zr 43 (.nck (zt 42)), zr 44 (.fa 1 (zt 43)), zr 45 (.ld (zt 44)), zr 46 (.ia 7 (zt 41) (zt 45)), zr 47 (.ldn 7 (zt 46)), zc 48 63 [(zt 37), (zt 47)], zf 49 (.app 5 1 1 (zt 36) (zt 48)), za 3 (zt 49)])))
  (.run [zr 17 (.mv (zt 4)), zr 18 (.bin .add (zt 17) (zi 1)), za 4 (zt 18)]))
def rc42_1 : RC := (.seq (.seq (.run [zr 5 (.mv (zt 0)), zr 6 (.nck (zt 5)), zr 7 (.fa 6 (zt 6)), zr 8 (.ld (zt 7)), zr 9 (.bin .eql (zt 8) (zi 0)), zr 10 (.mv (zt 9)), zg 11 10 true (.mv (zt 0)), zg 12 10 true (.nck (zt 11)), zg 13 10 true (.fa 3 (zt 12)), zg 14 10 true (.ld (zt 13)), zg 15 10 true (.eq false .ptr (zt 14) (.const (.pointer none))), zr 16 (.pick (zt 10) (zt 15) (.const (.bool false)))])
  (.cond (zt 16)
  .skip
  (.exit 0)))
  rc42_0)
def rc42_2 : RC := (.seq (.run [zr 50 (.mv (zt 3)), za 2 (zt 50)])
  .ret)
def rc42 : RC := (.seq (.run [za 2 (.const (.slice none 0 0))])
  (.seq (.run [za 3 (.const (.slice none 0 0))])
  (.seq (.seq (.run [za 4 (zi 0)])
  (.block 0 (.loop rc42_1)))
  rc42_2)))
def ce42 : List (Nat × List Nat × List Nat) := [(5, [0, 1, 2, 3, 4, 5, 6, 7, 8, 9, 10, 11, 12, 13], [0, 1, 3, 7, 15, 31, 63, 7, 135, 391, 903, 1927, 4095, 8191]), (7, [0, 1, 2, 3, 4, 5, 6, 7, 8, 9, 10, 11, 12, 13, 14], [0, 0, 0, 4, 12, 28, 0, 64, 192, 448, 1020, 2044, 4094, 8191, 16383])]
def ro42 : List RO := [(.mv (zt 2))]
theorem ok42 : okFn Tryz.prog 42 51 ce42 = some (rc42, ro42) := by kernel_rfl
/-! (*lifeline/play.Play).jump -/

def rc43 : RC := (.run [zr 4 (.mv (zt 0)), zr 5 (.mv (zt 0)), zr 6 (.nck (zt 5)), zr 7 (.fa 0 (zt 6)), zr 8 (.ld (zt 7)), zr 9 (.mv (zt 1)), zc 10 14 [(zt 8), (zt 9)], zr 11 (.nck (zt 4)), zr 12 (.fa 1 (zt 11)), ze (.st 1 (zt 12) (zt 10))])
def ce43 : List (Nat × List Nat × List Nat) := []
def ro43 : List RO := []
theorem ok43 : okFn Tryz.prog 43 13 ce43 = some (rc43, ro43) := by kernel_rfl
/-! (*lifeline/expect.Watch).Put -/
def rc44_0 : RC := (.seq (.block 1 (.seq (.run [zr 27 (.mv (zt 25)), zr 28 (.ia 1 (zt 23) (zt 25)), zr 29 (.ld (zt 28)), za 7 (zt 27), za 8 (zt 29)])
  (.seq (.run [zr 30 (.mv (zt 0)), zr 31 (.nck (zt 30)), zr 32 (.fa 1 (zt 31)), zr 33 (.ld (zt 32)), zr 34 (.mv (zt 7)), zr 35 (.mv (zt 8)), zr 36 (.mv (zt 0)), zr 37 (.nck (zt 36)), zr 38 (.fa 1 (zt 37)), zr 39 (.ld (zt 38)), zr 40 (.mv (zt 7)), zr 41 (.ia 1 (zt 39) (zt 40)), zr 42 (.ld (zt 41)), zr 43 (.mv (zt 1)), ⟨(some 44), none, (.c (.fn 64 [(zt 35), (zt 42), (zt 43), (.const (.bool true))])), [(33, none, .ld (zt 32))]⟩, zr 45 (.ia 1 (zt 33) (zt 34)), ze (.st 1 (zt 45) (zt 44))])
  (.seq (.run [zr 46 (.mv (zt 6)), zr 47 (.bin .lss (zt 46) (zi 0)), zr 48 (.mv (zt 47)), zg 49 48 true (.mv (zt 8)), zg 50 48 true (.mv (zt 0)), zg 51 48 true (.nck (zt 50)), zg 52 48 true (.fa 1 (zt 51)), zg 53 48 true (.ld (zt 52)), zg 54 48 true (.mv (zt 7)), zg 55 48 true (.ia 1 (zt 53) (zt 54)), zg 56 48 true (.ld (zt 55)), ⟨(some 57), (some (48, true)), (.c (.fn 65 [(zt 49), (zt 56)])), []⟩, zr 58 (.pick (zt 48) (zt 57) (.const (.bool false)))])
  (.cond (zt 58)
  (.run [zr 59 (.mv (zt 7)), za 6 (zt 59)])
  .skip)))))
  (.run [zr 60 (.bin .add (zt 25) (zi 1)), zr 25 (.mv (zt 60))]))
def rc44_1 : RC := (.seq (.run [zr 26 (.bin .lss (zt 25) (zt 24))])
  (.seq (.cond (zt 26)
  .skip
  (.exit 0))
  rc44_0))
def rc44_2 : RC := (.seq (.run [zr 63 (.mv (zt 0)), zr 64 (.nck (zt 63)), zr 65 (.fa 3 (zt 64)), ze (.st 1 (zt 65) (.const (.bool true)))])
  (.seq (.run [zr 66 (.mv (zt 6)), za 4 (zt 66), za 5 (.const (.bool true))])
  .ret))
def rc44_3 : RC := (.seq (.seq (.run [zr 61 (.mv (zt 6)), zr 62 (.bin .lss (zt 61) (zi 0))])
  (.cond (zt 62)
  (.seq (.run [za 4 (zi 0), za 5 (.const (.bool false))])
  .ret)
  .skip))
  rc44_2)
def rc44_4 : RC := (.seq (.run [zr 13 (.mv (zt 0)), zr 14 (.nck (zt 13)), zr 15 (.fa 2 (zt 14)), zr 16 (.ld (zt 15)), zr 17 (.bin .add (zt 16) (zi 1)), zr 18 (.nck (zt 13)), zr 19 (.fa 2 (zt 18)), ze (.st 1 (zt 19) (zt 17))])
  (.seq (.run [za 6 (zi (-1))])
  (.seq (.seq (.run [zr 20 (.mv (zt 0)), zr 21 (.nck (zt 20)), zr 22 (.fa 0 (zt 21)), zr 23 (.ld (zt 22)), zr 24 (.lenl (zt 23)), zr 25 (.mv (zi 0))])
  (.block 0 (.loop rc44_1)))
  rc44_3)))
def rc44 : RC := (.seq (.run [za 4 (zi 0), za 5 (.const (.bool false))])
  (.seq (.seq (.run [zr 9 (.mv (zt 0)), zr 10 (.nck (zt 9)), zr 11 (.fa 3 (zt 10)), zr 12 (.ld (zt 11))])
  (.cond (zt 12)
  (.seq (.run [za 4 (zi 0), za 5 (.const (.bool false))])
  .ret)
  .skip))
  rc44_4))
def ce44 : List (Nat × List Nat × List Nat) := [(8, [0, 1, 2, 3, 4, 5, 6, 7, 8, 9, 10, 11, 12, 13, 14, 15, 16], [0, 1, 3, 7, 0, 0, 0, 64, 192, 448, 0, 1984, 4032, 0, 16352, 32767, 65535])]
def ro44 : List RO := [(.mv (zt 4)), (.mv (zt 5))]
theorem ok44 : okFn Tryz.prog 44 67 ce44 = some (rc44, ro44) := by kernel_rfl
/-! lifeline/expect.Of -/
def rc45_0 : RC := (.seq (.run [zr 38 (.ldn 6 (zt 7)), zc 39 67 [(zt 38)], za 9 (zt 39)])
  (.seq (.seq (.run [zr 40 (.mv (zt 9)), zc 41 68 [(zt 40)]])
  (.cond (zt 41)
  (.seq (.run [zr 42 (.mki 39 (zi 8)), za 2 (.const (.pointer none)), za 3 (zt 42)])
  .ret)
  .skip))
  (.run [zr 43 (.mv (zt 4)), zr 44 (.mv (zt 4)), zr 45 (.nck (zt 44)), zr 46 (.fa 0 (zt 45)), zr 47 (.ld (zt 46)), zr 48 (.mv (zt 9)), zf 49 (.bsl 141 1 1 [(.pointer none)] [(0, 1, (zt 48))]), zf 50 (.app 141 1 8 (zt 47) (zt 49)), zr 51 (.nck (zt 43)), zr 52 (.fa 0 (zt 51)), ze (.st 1 (zt 52) (zt 50))])))
def rc45_1 : RC := (.seq (.block 1 (.seq (.run [zr 28 (.ia 1 (zt 24) (zt 26)), zr 29 (.ld (zt 28)), za 6 (zt 29)])
  (.seq (.run [zr 31 (.mv (zt 6)), zc 32 66 [(zt 31)], zr 30 (.mv (zt 32)), zr 33 (.ext 0 (zt 30)), zr 34 (.ext 1 (zt 30)), zf 7 (.al [(.int .i64 0), (.int .u64 0), (.int .u64 0), (.int .u64 0), (.int .u64 0), (.slice none 0 0)] 76), ze (.st 6 (zt 7) (zt 33)), za 8 (zt 34)])
  (.seq (.seq (.run [zr 35 (.mv (zt 8)), zr 36 (.eq true (.iface []) (zt 35) (.const .nilIface))])
  (.cond (zt 36)
  (.seq (.run [zr 37 (.mv (zt 8)), za 2 (.const (.pointer none)), za 3 (zt 37)])
  .ret)
  .skip))
  rc45_0))))
  (.run [zr 53 (.bin .add (zt 26) (zi 1)), zr 26 (.mv (zt 53))]))
def rc45_2 : RC := (.seq (.run [zr 27 (.bin .lss (zt 26) (zt 25))])
  (.seq (.cond (zt 27)
  .skip
  (.exit 0))
  rc45_1))
def rc45_3 : RC := (.seq (.run [zr 54 (.mv (zt 4)), za 2 (zt 54), za 3 (.const .nilIface)])
  .ret)
def rc45_4 : RC := (.seq (.run [zr 19 (.mv (zt 0)), zr 20 (.lenl (zt 19)), zf 21 (.mks 142 24 (.slice none 0 0) (zt 20) (zt 20)), zr 22 (.bld [(.slice none 0 0), (.slice none 0 0), (.int .i64 0), (.bool false)] [(1, 1, (zt 21))]), zf 23 (.bx 140 (zt 22)), za 4 (zt 23)])
  (.seq (.seq (.run [zr 24 (.mv (zt 0)), zr 25 (.lenl (zt 24)), zr 26 (.mv (zi 0))])
  (.block 0 (.loop rc45_2)))
  rc45_3))
def rc45 : RC := (.seq (.run [za 2 (.const (.pointer none)), za 3 (.const .nilIface)])
  (.seq (.seq (.run [zr 10 (.mv (zt 0)), zr 11 (.lenl (zt 10)), zr 12 (.bin .eql (zt 11) (zi 0)), zr 13 (.mv (zt 12)), zg 14 13 false (.mv (zt 0)), zg 15 13 false (.lenl (zt 14)), zg 16 13 false (.bin .gtr (zt 15) (zi 8)), zr 17 (.pick (zt 13) (.const (.bool true)) (zt 16))])
  (.cond (zt 17)
  (.seq (.run [zr 18 (.mki 39 (zi 7)), za 2 (.const (.pointer none)), za 3 (zt 18)])
  .ret)
  .skip))
  rc45_4))
def ce45 : List (Nat × List Nat × List Nat) := []
def ro45 : List RO := [(.mv (zt 2)), (.mv (zt 3))]
theorem ok45 : okFn Tryz.prog 45 55 ce45 = some (rc45, ro45) := by kernel_rfl
/-! lifeline/lifelinelaw06.build -/
def rc46_0 : RC := (.run [zf 43 (.bsl 5 1 1 [(.int .u8 0)] [(0, 1, (zt 42))]), zr 44 (.b2s (zt 43)), ⟨(some 46), none, (.c (.fn 69 [(zt 45)])), [(44, none, .b2s (zt 43))]⟩, za 4 (zt 44), ze (.st 6 (zt 5) (zt 46)), za 6 (zt 47)])
def rc46_1 : RC := (.run [zc 46 69 [(zt 45)], zf 43 (.bsl 5 1 1 [(.int .u8 0)] [(0, 1, (zt 42))]), zr 44 (.b2s (zt 43)), za 4 (zt 44), ze (.st 6 (zt 5) (zt 46)), za 6 (zt 47)])
def rc46_2 : RC := (.run [zf 77 (.bsl 76 6 2 [(.int .i64 0), (.int .u64 0), (.int .u64 0), (.int .u64 0), (.int .u64 0), (.slice none 0 0), (.int .i64 0), (.int .u64 0), (.int .u64 0), (.int .u64 0), (.int .u64 0), (.slice none 0 0)] [(0, 6, (zt 75)), (6, 6, (zt 76))]), zr 78 (.bld [(.int .i64 0), (.int .u64 0), (.int .u64 0), (.int .u64 0), (.int .u64 0), (.slice none 0 0)] [(0, 1, (zi 2)), (5, 1, (zt 77))]), ⟨(some 4), none, (.a (zt 74)), [(75, none, .ldn 6 (zt 10)), (76, none, .ldn 6 (zt 13))]⟩, ze (.st 6 (zt 5) (zt 78)), za 6 (zt 79)])
def rc46_3 : RC := (.run [⟨(some 4), none, (.a (zt 74)), [(75, none, .ldn 6 (zt 10)), (76, none, .ldn 6 (zt 13))]⟩, zf 77 (.bsl 76 6 2 [(.int .i64 0), (.int .u64 0), (.int .u64 0), (.int .u64 0), (.int .u64 0), (.slice none 0 0), (.int .i64 0), (.int .u64 0), (.int .u64 0), (.int .u64 0), (.int .u64 0), (.slice none 0 0)] [(0, 6, (zt 75)), (6, 6, (zt 76))]), zr 78 (.bld [(.int .i64 0), (.int .u64 0), (.int .u64 0), (.int .u64 0), (.int .u64 0), (.slice none 0 0)] [(0, 1, (zi 2)), (5, 1, (zt 77))]), ze (.st 6 (zt 5) (zt 78)), za 6 (zt 79)])
def rc46_4 : RC := (.run [zf 107 (.bsl 76 6 2 [(.int .i64 0), (.int .u64 0), (.int .u64 0), (.int .u64 0), (.int .u64 0), (.slice none 0 0), (.int .i64 0), (.int .u64 0), (.int .u64 0), (.int .u64 0), (.int .u64 0), (.slice none 0 0)] [(0, 6, (zt 105)), (6, 6, (zt 106))]), zr 108 (.bld [(.int .i64 0), (.int .u64 0), (.int .u64 0), (.int .u64 0), (.int .u64 0), (.slice none 0 0)] [(0, 1, (zi 3)), (5, 1, (zt 107))]), ⟨(some 4), none, (.a (zt 104)), [(105, none, .ldn 6 (zt 15)), (106, none, .ldn 6 (zt 18))]⟩, ze (.st 6 (zt 5) (zt 108)), za 6 (zt 109)])
def rc46_5 : RC := (.run [⟨(some 4), none, (.a (zt 104)), [(105, none, .ldn 6 (zt 15)), (106, none, .ldn 6 (zt 18))]⟩, zf 107 (.bsl 76 6 2 [(.int .i64 0), (.int .u64 0), (.int .u64 0), (.int .u64 0), (.int .u64 0), (.slice none 0 0), (.int .i64 0), (.int .u64 0), (.int .u64 0), (.int .u64 0), (.int .u64 0), (.slice none 0 0)] [(0, 6, (zt 105)), (6, 6, (zt 106))]), zr 108 (.bld [(.int .i64 0), (.int .u64 0), (.int .u64 0), (.int .u64 0), (.int .u64 0), (.slice none 0 0)] [(0, 1, (zi 3)), (5, 1, (zt 107))]), ze (.st 6 (zt 5) (zt 108)), za 6 (zt 109)])
def rc46_6 : RC := (.run [zf 124 (.bsl 76 6 1 [(.int .i64 0), (.int .u64 0), (.int .u64 0), (.int .u64 0), (.int .u64 0), (.slice none 0 0)] [(0, 6, (zt 123))]), zr 125 (.bld [(.int .i64 0), (.int .u64 0), (.int .u64 0), (.int .u64 0), (.int .u64 0), (.slice none 0 0)] [(0, 1, (zi 4)), (5, 1, (zt 124))]), ⟨(some 4), none, (.a (zt 122)), [(123, none, .ldn 6 (zt 20))]⟩, ze (.st 6 (zt 5) (zt 125)), za 6 (zt 126)])
def rc46_7 : RC := (.run [⟨(some 4), none, (.a (zt 122)), [(123, none, .ldn 6 (zt 20))]⟩, zf 124 (.bsl 76 6 1 [(.int .i64 0), (.int .u64 0), (.int .u64 0), (.int .u64 0), (.int .u64 0), (.slice none 0 0)] [(0, 6, (zt 123))]), zr 125 (.bld [(.int .i64 0), (.int .u64 0), (.int .u64 0), (.int .u64 0), (.int .u64 0), (.slice none 0 0)] [(0, 1, (zi 4)), (5, 1, (zt 124))]), ze (.st 6 (zt 5) (zt 125)), za 6 (zt 126)])
def rc46_8 : RC := (.run [zf 142 (.bsl 76 6 2 [(.int .i64 0), (.int .u64 0), (.int .u64 0), (.int .u64 0), (.int .u64 0), (.slice none 0 0), (.int .i64 0), (.int .u64 0), (.int .u64 0), (.int .u64 0), (.int .u64 0), (.slice none 0 0)] [(0, 6, (zt 140)), (6, 6, (zt 141))]), zr 143 (.bld [(.int .i64 0), (.int .u64 0), (.int .u64 0), (.int .u64 0), (.int .u64 0), (.slice none 0 0)] [(0, 1, (zi 3)), (5, 1, (zt 142))]), ⟨(some 4), none, (.a (zt 139)), [(140, none, .ldn 6 (zt 23))]⟩, ze (.st 6 (zt 5) (zt 143)), za 6 (zt 144)])
def rc46_9 : RC := (.run [⟨(some 4), none, (.a (zt 139)), [(140, none, .ldn 6 (zt 23))]⟩, zf 142 (.bsl 76 6 2 [(.int .i64 0), (.int .u64 0), (.int .u64 0), (.int .u64 0), (.int .u64 0), (.slice none 0 0), (.int .i64 0), (.int .u64 0), (.int .u64 0), (.int .u64 0), (.int .u64 0), (.slice none 0 0)] [(0, 6, (zt 140)), (6, 6, (zt 141))]), zr 143 (.bld [(.int .i64 0), (.int .u64 0), (.int .u64 0), (.int .u64 0), (.int .u64 0), (.slice none 0 0)] [(0, 1, (zi 3)), (5, 1, (zt 142))]), ze (.st 6 (zt 5) (zt 143)), za 6 (zt 144)])
def rc46_10 : RC := (.run [zf 162 (.bsl 76 6 2 [(.int .i64 0), (.int .u64 0), (.int .u64 0), (.int .u64 0), (.int .u64 0), (.slice none 0 0), (.int .i64 0), (.int .u64 0), (.int .u64 0), (.int .u64 0), (.int .u64 0), (.slice none 0 0)] [(0, 6, (zt 158)), (6, 6, (zt 161))]), zr 163 (.bld [(.int .i64 0), (.int .u64 0), (.int .u64 0), (.int .u64 0), (.int .u64 0), (.slice none 0 0)] [(0, 1, (zi 2)), (5, 1, (zt 162))]), ⟨(some 4), none, (.a (zt 157)), [(158, none, .ldn 6 (zt 26)), (159, none, .ldn 6 (zt 26))]⟩, ze (.st 6 (zt 5) (zt 163)), za 6 (zt 164)])
def rc46_11 : RC := (.run [⟨(some 4), none, (.a (zt 157)), [(158, none, .ldn 6 (zt 26)), (159, none, .ldn 6 (zt 26))]⟩, zf 162 (.bsl 76 6 2 [(.int .i64 0), (.int .u64 0), (.int .u64 0), (.int .u64 0), (.int .u64 0), (.slice none 0 0), (.int .i64 0), (.int .u64 0), (.int .u64 0), (.int .u64 0), (.int .u64 0), (.slice none 0 0)] [(0, 6, (zt 158)), (6, 6, (zt 161))]), zr 163 (.bld [(.int .i64 0), (.int .u64 0), (.int .u64 0), (.int .u64 0), (.int .u64 0), (.slice none 0 0)] [(0, 1, (zi 2)), (5, 1, (zt 162))]), ze (.st 6 (zt 5) (zt 163)), za 6 (zt 164)])
def rc46_12 : RC := (.fork [⟨(some 160), none, (.e (.bsl 76 6 1 [(.int .i64 0), (.int .u64 0), (.int .u64 0), (.int .u64 0), (.int .u64 0), (.slice none 0 0)] [(0, 6, (zt 159))])), [(158, none, .ldn 6 (zt 26))]⟩, zr 161 (.bld [(.int .i64 0), (.int .u64 0), (.int .u64 0), (.int .u64 0), (.int .u64 0), (.slice none 0 0)] [(0, 1, (zi 4)), (5, 1, (zt 160))])]
  rc46_10
  rc46_11)
def rc46_13 : RC := (.run [⟨(some 4), none, (.a (zt 157)), [(158, none, .ldn 6 (zt 26)), (159, none, .ldn 6 (zt 26))]⟩, ⟨(some 160), none, (.e (.bsl 76 6 1 [(.int .i64 0), (.int .u64 0), (.int .u64 0), (.int .u64 0), (.int .u64 0), (.slice none 0 0)] [(0, 6, (zt 159))])), [(158, none, .ldn 6 (zt 26))]⟩, zr 161 (.bld [(.int .i64 0), (.int .u64 0), (.int .u64 0), (.int .u64 0), (.int .u64 0), (.slice none 0 0)] [(0, 1, (zi 4)), (5, 1, (zt 160))]), zf 162 (.bsl 76 6 2 [(.int .i64 0), (.int .u64 0), (.int .u64 0), (.int .u64 0), (.int .u64 0), (.slice none 0 0), (.int .i64 0), (.int .u64 0), (.int .u64 0), (.int .u64 0), (.int .u64 0), (.slice none 0 0)] [(0, 6, (zt 158)), (6, 6, (zt 161))]), zr 163 (.bld [(.int .i64 0), (.int .u64 0), (.int .u64 0), (.int .u64 0), (.int .u64 0), (.slice none 0 0)] [(0, 1, (zi 2)), (5, 1, (zt 162))]), ze (.st 6 (zt 5) (zt 163)), za 6 (zt 164)])
def rc46_14 : RC := (.cond (zt 80)
  (.seq (.run [zr 84 (.mv (zt 0)), zr 85 (.mv (zt 1)), zr 86 (.bin .sub (zt 85) (zi 1)), zc 87 46 [(zt 84), (zt 86)], zr 83 (.mv (zt 87)), zr 88 (.ext 0 (zt 83)), zr 89 (.ext 1 (zt 83)), zr 90 (.ext 2 (zt 83)), zf 15 (.al [(.int .i64 0), (.int .u64 0), (.int .u64 0), (.int .u64 0), (.int .u64 0), (.slice none 0 0)] 76), za 14 (zt 88), ze (.st 6 (zt 15) (zt 89)), za 16 (zt 90)])
  (.seq (.run [zr 92 (.mv (zt 16)), zr 93 (.mv (zt 1)), zr 94 (.bin .sub (zt 93) (zi 1)), zc 95 46 [(zt 92), (zt 94)], zr 91 (.mv (zt 95)), zr 96 (.ext 0 (zt 91)), zr 97 (.ext 1 (zt 91)), zr 98 (.ext 2 (zt 91)), zf 18 (.al [(.int .i64 0), (.int .u64 0), (.int .u64 0), (.int .u64 0), (.int .u64 0), (.slice none 0 0)] 76), za 17 (zt 96), ze (.st 6 (zt 18) (zt 97)), za 16 (zt 98)])
  (.seq (.sem (.fork [zr 99 (.mv (zt 14)), zr 100 (.bin .add (.const (.string ⟨#[40]⟩)) (zt 99)), zr 101 (.bin .add (zt 100) (.const (.string ⟨#[124, 40]⟩))), zr 102 (.mv (zt 17)), zr 103 (.bin .add (zt 101) (zt 102)), zr 104 (.bin .add (zt 103) (.const (.string ⟨#[41, 41]⟩))), zr 105 (.ldn 6 (zt 15)), zr 106 (.ldn 6 (zt 18)), zr 109 (.mv (zt 16))]
  rc46_4
  rc46_5))
  .ret)))
  (.seq (.run [zr 111 (.bin .eql (zt 49) (.const (.int .u8 4))), za 110 (zt 111)])
  (.cond (zt 110)
  (.seq (.run [zr 113 (.mv (zt 0)), zr 114 (.mv (zt 1)), zr 115 (.bin .sub (zt 114) (zi 1)), zc 116 46 [(zt 113), (zt 115)], zr 112 (.mv (zt 116)), zr 117 (.ext 0 (zt 112)), zr 118 (.ext 1 (zt 112)), zr 119 (.ext 2 (zt 112)), zf 20 (.al [(.int .i64 0), (.int .u64 0), (.int .u64 0), (.int .u64 0), (.int .u64 0), (.slice none 0 0)] 76), za 19 (zt 117), ze (.st 6 (zt 20) (zt 118)), za 21 (zt 119)])
  (.seq (.sem (.fork [zr 120 (.mv (zt 19)), zr 121 (.bin .add (.const (.string ⟨#[40]⟩)) (zt 120)), zr 122 (.bin .add (zt 121) (.const (.string ⟨#[41, 42]⟩))), zr 123 (.ldn 6 (zt 20)), zr 126 (.mv (zt 21))]
  rc46_6
  rc46_7))
  .ret))
  (.seq (.run [zr 128 (.bin .eql (zt 49) (.const (.int .u8 5))), za 127 (zt 128)])
  (.cond (zt 127)
  (.seq (.run [zr 130 (.mv (zt 0)), zr 131 (.mv (zt 1)), zr 132 (.bin .sub (zt 131) (zi 1)), zc 133 46 [(zt 130), (zt 132)], zr 129 (.mv (zt 133)), zr 134 (.ext 0 (zt 129)), zr 135 (.ext 1 (zt 129)), zr 136 (.ext 2 (zt 129)), zf 23 (.al [(.int .i64 0), (.int .u64 0), (.int .u64 0), (.int .u64 0), (.int .u64 0), (.slice none 0 0)] 76), za 22 (zt 134), ze (.st 6 (zt 23) (zt 135)), za 24 (zt 136)])
  (.seq (.sem (.fork [zr 137 (.mv (zt 22)), zr 138 (.bin .add (.const (.string ⟨#[40]⟩)) (zt 137)), zr 139 (.bin .add (zt 138) (.const (.string ⟨#[41, 63]⟩))), zr 140 (.ldn 6 (zt 23)), zr 141 (.bld [(.int .i64 0), (.int .u64 0), (.int .u64 0), (.int .u64 0), (.int .u64 0), (.slice none 0 0)] []), zr 144 (.mv (zt 24))]
  rc46_8
  rc46_9))
  .ret))
  (.seq (.run [zr 146 (.bin .eql (zt 49) (.const (.int .u8 6))), za 145 (zt 146)])
  (.cond (zt 145)
  (.seq (.run [zr 148 (.mv (zt 0)), zr 149 (.mv (zt 1)), zr 150 (.bin .sub (zt 149) (zi 1)), zc 151 46 [(zt 148), (zt 150)], zr 147 (.mv (zt 151)), zr 152 (.ext 0 (zt 147)), zr 153 (.ext 1 (zt 147)), zr 154 (.ext 2 (zt 147)), zf 26 (.al [(.int .i64 0), (.int .u64 0), (.int .u64 0), (.int .u64 0), (.int .u64 0), (.slice none 0 0)] 76), za 25 (zt 152), ze (.st 6 (zt 26) (zt 153)), za 27 (zt 154)])
  (.seq (.sem (.fork [zr 155 (.mv (zt 25)), zr 156 (.bin .add (.const (.string ⟨#[40]⟩)) (zt 155)), zr 157 (.bin .add (zt 156) (.const (.string ⟨#[41, 43]⟩))), zr 158 (.ldn 6 (zt 26)), zr 159 (.ldn 6 (zt 26)), zr 164 (.mv (zt 27))]
  rc46_12
  rc46_13))
  .ret))
  (.seq (.run [zr 166 (.bin .eql (zt 49) (.const (.int .u8 7))), za 165 (zt 166)])
  (.cond (zt 165)
  (.seq (.run [zr 167 (.bld [(.int .u64 0), (.int .u64 0), (.int .u64 0), (.int .u64 0)] []), zc 168 70 [(zt 167)], zr 169 (.bld [(.int .i64 0), (.int .u64 0), (.int .u64 0), (.int .u64 0), (.int .u64 0), (.slice none 0 0)] [(0, 1, (zi 1)), (1, 4, (zt 168))]), zr 170 (.mv (zt 0)), za 4 (.const (.string ⟨#[46]⟩)), ze (.st 6 (zt 5) (zt 169)), za 6 (zt 170)])
  .ret)
  .skip)))))))))
def rc46_15 : RC := (.cond (zt 50)
  (.seq (.run [zr 54 (.mv (zt 0)), zr 55 (.mv (zt 1)), zr 56 (.bin .sub (zt 55) (zi 1)), zc 57 46 [(zt 54), (zt 56)], zr 53 (.mv (zt 57)), zr 58 (.ext 0 (zt 53)), zr 59 (.ext 1 (zt 53)), zr 60 (.ext 2 (zt 53)), zf 10 (.al [(.int .i64 0), (.int .u64 0), (.int .u64 0), (.int .u64 0), (.int .u64 0), (.slice none 0 0)] 76), za 9 (zt 58), ze (.st 6 (zt 10) (zt 59)), za 11 (zt 60)])
  (.seq (.run [zr 62 (.mv (zt 11)), zr 63 (.mv (zt 1)), zr 64 (.bin .sub (zt 63) (zi 1)), zc 65 46 [(zt 62), (zt 64)], zr 61 (.mv (zt 65)), zr 66 (.ext 0 (zt 61)), zr 67 (.ext 1 (zt 61)), zr 68 (.ext 2 (zt 61)), zf 13 (.al [(.int .i64 0), (.int .u64 0), (.int .u64 0), (.int .u64 0), (.int .u64 0), (.slice none 0 0)] 76), za 12 (zt 66), ze (.st 6 (zt 13) (zt 67)), za 11 (zt 68)])
  (.seq (.sem (.fork [zr 69 (.mv (zt 9)), zr 70 (.bin .add (.const (.string ⟨#[40]⟩)) (zt 69)), zr 71 (.bin .add (zt 70) (.const (.string ⟨#[41, 40]⟩))), zr 72 (.mv (zt 12)), zr 73 (.bin .add (zt 71) (zt 72)), zr 74 (.bin .add (zt 73) (.const (.string ⟨#[41]⟩))), zr 75 (.ldn 6 (zt 10)), zr 76 (.ldn 6 (zt 13)), zr 79 (.mv (zt 11))]
  rc46_2
  rc46_3))
  .ret)))
  (.seq (.seq (.run [zr 81 (.bin .eql (zt 49) (.const (.int .u8 2))), za 80 (zt 81)])
  (.cond (zt 80)
  .skip
  (.run [zr 82 (.bin .eql (zt 49) (.const (.int .u8 3))), za 80 (zt 82)])))
  rc46_14))
def rc46_16 : RC := (.seq (.run [zr 171 (.bld [(.int .u64 0), (.int .u64 0), (.int .u64 0), (.int .u64 0)] []), zc 172 71 [(zt 171), (.const (.int .u8 97))], zc 173 71 [(zt 172), (.const (.int .u8 98))], zc 174 70 [(zt 173)], zr 175 (.bld [(.int .i64 0), (.int .u64 0), (.int .u64 0), (.int .u64 0), (.int .u64 0), (.slice none 0 0)] [(0, 1, (zi 1)), (1, 4, (zt 174))]), zr 176 (.mv (zt 0)), za 4 (.const (.string ⟨#[91, 94, 97, 45, 98, 93]⟩)), ze (.st 6 (zt 5) (zt 175)), za 6 (zt 176)])
  .ret)
def rc46_17 : RC := (.seq (.seq (.run [zr 48 (.mv (zt 7)), zr 49 (.bin .rem (zt 48) (.const (.int .u8 9)))])
  (.block 0 (.seq (.seq (.run [zr 51 (.bin .eql (zt 49) (.const (.int .u8 0))), za 50 (zt 51)])
  (.cond (zt 50)
  .skip
  (.run [zr 52 (.bin .eql (zt 49) (.const (.int .u8 1))), za 50 (zt 52)])))
  rc46_15)))
  rc46_16)
def rc46_18 : RC := (.seq (.run [zr 32 (.mv (zt 0)), zr 33 (.ia 1 (zt 32) (zi 0)), zr 34 (.ld (zt 33)), za 7 (zt 34)])
  (.seq (.run [zr 35 (.mv (zt 0)), zr 36 (.sl 1 (zt 35) (some (zi 1)) none), za 0 (zt 36)])
  (.seq (.seq (.run [zr 37 (.mv (zt 1)), zr 38 (.bin .leq (zt 37) (zi 0))])
  (.cond (zt 38)
  (.seq (.run [zr 39 (.mv (zt 7)), zr 40 (.bin .rem (zt 39) (.const (.int .u8 3))), zr 41 (.ixs (.const (.string ⟨#[97, 98, 99]⟩)) (zt 40)), za 8 (zt 41)])
  (.seq (.sem (.fork [zr 42 (.mv (zt 8)), zr 45 (.mv (zt 8)), zr 47 (.mv (zt 0))]
  rc46_0
  rc46_1))
  .ret))
  .skip))
  rc46_17)))
def rc46 : RC := (.seq (.run [za 4 (.const (.string ⟨#[]⟩)), zf 5 (.al [(.int .i64 0), (.int .u64 0), (.int .u64 0), (.int .u64 0), (.int .u64 0), (.slice none 0 0)] 76), za 6 (.const (.slice none 0 0))])
  (.seq (.seq (.run [zr 28 (.mv (zt 0)), zr 29 (.lenl (zt 28)), zr 30 (.bin .eql (zt 29) (zi 0))])
  (.cond (zt 30)
  (.seq (.run [zc 31 69 [(.const (.int .u8 97))], za 4 (.const (.string ⟨#[97]⟩)), ze (.st 6 (zt 5) (zt 31)), za 6 (.const (.slice none 0 0))])
  .ret)
  .skip))
  rc46_18))
def ce46 : List (Nat × List Nat × List Nat) := [(7, [0, 3, 5, 1000, 1, 2, 4, 6, 7, 8, 1001, 4, 1, 2, 6, 7, 8], [0, 1, 3, 0, 8, 0, 31, 95, 255]), (13, [0, 1, 2, 3, 4, 5, 6, 7, 10, 1000, 8, 9, 11, 12, 13, 1001, 11, 8, 9, 12, 13], [0, 1, 3, 0, 15, 31, 0, 0, 192, 448, 0, 63, 3071, 8191]), (18, [0, 1, 2, 3, 4, 5, 6, 7, 10, 1000, 8, 9, 11, 12, 13, 1001, 11, 8, 9, 12, 13], [0, 1, 3, 0, 15, 31, 0, 0, 192, 448, 0, 63, 3071, 8191]), (21, [0, 1, 2, 3, 6, 1000, 4, 5, 7, 8, 9, 1001, 7, 4, 5, 8, 9], [0, 1, 3, 0, 8, 24, 0, 7, 191, 511]), (24, [0, 1, 2, 3, 4, 7, 1000, 5, 6, 8, 9, 10, 1001, 8, 5, 6, 9, 10], [0, 1, 3, 0, 0, 24, 56, 0, 7, 383, 1023]), (27, [0, 1, 2, 3, 4, 9, 1000, 5, 6, 1000, 7, 8, 10, 11, 12, 1001, 10, 7, 8, 11, 12, 1001, 10, 5, 6, 7, 8, 11, 12], [0, 1, 3, 0, 0, 16, 48, 120, 248, 0, 7, 1535, 4095])]
def ro46 : List RO := [(.mv (zt 4)), (.ldn 6 (zt 5)), (.mv (zt 6))]
theorem ok46 : okFn Tryz.prog 46 177 ce46 = some (rc46, ro46) := by kernel_rfl
/-! lifeline/api.Wrap -/

def rc47 : RC := (.seq (.run [za 4 (.const .nilIface)])
  (.seq (.run [zr 5 (.mv (zt 0)), zr 6 (.mv (zt 1)), zr 7 (.bld [(.int .i64 0), (.int .i64 0)] [(0, 1, (zt 5)), (1, 1, (zt 6))]), zr 8 (.mki 92 (zt 7)), za 4 (zt 8)])
  .ret))
def ce47 : List (Nat × List Nat × List Nat) := []
def ro47 : List RO := [(.mv (zt 4))]
theorem ok47 : okFn Tryz.prog 47 9 ce47 = some (rc47, ro47) := by kernel_rfl
/-! lifeline/token.one -/
def rc48_0 : RC := (.seq (.run [zr 58 (.bld [(.int .i64 0), (.string ⟨#[]⟩), (.int .i64 0), (.int .i64 0)] []), ze (.st 4 (zt 2) (zt 58)), za 3 (zi 0)])
  .ret)
def rc48 : RC := (.seq (.run [zf 2 (.al [(.int .i64 0), (.string ⟨#[]⟩), (.int .i64 0), (.int .i64 0)] 87), za 3 (zi 0)])
  (.seq (.seq (.run [zr 12 (.mv (zt 0)), zr 13 (.ixs (zt 12) (zi 0)), za 4 (zt 13)])
  (.block 0 (.seq (.run [zr 15 (.mv (zt 4)), zc 16 72 [(zt 15)], za 14 (zt 16)])
  (.cond (zt 14)
  (.seq (.run [zr 17 (.mv (zt 0)), zc 18 73 [(zt 17)], za 5 (zt 18)])
  (.seq (.run [zr 19 (.mv (zt 0)), zr 20 (.mv (zt 5)), zr 21 (.sls (zt 19) none (some (zt 20))), zr 22 (.bld [(.int .i64 0), (.string ⟨#[]⟩), (.int .i64 0), (.int .i64 0)] [(0, 1, (zi 1)), (1, 1, (zt 21))]), zr 23 (.mv (zt 5)), ze (.st 4 (zt 2) (zt 22)), za 3 (zt 23)])
  .ret))
  (.seq (.run [zr 25 (.mv (zt 4)), zc 26 74 [(zt 25)], za 24 (zt 26)])
  (.cond (zt 24)
  (.seq (.run [zr 28 (.mv (zt 0)), zc 29 75 [(zt 28)], zr 27 (.mv (zt 29)), zr 30 (.ext 0 (zt 27)), zr 31 (.ext 1 (zt 27)), zr 32 (.ext 2 (zt 27)), za 6 (zt 30), za 7 (zt 31), za 8 (zt 32)])
  (.seq (.run [zr 33 (.mv (zt 0)), zr 34 (.mv (zt 6)), zr 35 (.sls (zt 33) none (some (zt 34))), zr 36 (.mv (zt 7)), zr 37 (.bld [(.int .i64 0), (.string ⟨#[]⟩), (.int .i64 0), (.int .i64 0)] [(0, 1, (zi 2)), (1, 1, (zt 35)), (2, 1, (zt 36))]), zr 38 (.mv (zt 6)), ze (.st 4 (zt 2) (zt 37)), za 3 (zt 38)])
  .ret))
  (.seq (.run [zr 40 (.mv (zt 4)), zr 41 (.bin .eql (zt 40) (.const (.int .u8 34))), za 39 (zt 41)])
  (.cond (zt 39)
  (.seq (.run [zr 43 (.mv (zt 0)), zc 44 76 [(zt 43)], zr 42 (.mv (zt 44)), zr 45 (.ext 0 (zt 42)), zr 46 (.ext 1 (zt 42)), zr 47 (.ext 2 (zt 42)), za 9 (zt 45), za 10 (zt 46), za 11 (zt 47)])
  (.seq (.run [zr 48 (.mv (zt 10)), zr 49 (.bld [(.int .i64 0), (.string ⟨#[]⟩), (.int .i64 0), (.int .i64 0)] [(0, 1, (zi 3)), (1, 1, (zt 48))]), zr 50 (.mv (zt 9)), ze (.st 4 (zt 2) (zt 49)), za 3 (zt 50)])
  .ret))
  (.seq (.run [zr 52 (.mv (zt 4)), zc 53 77 [(.const (.string ⟨#[58, 59, 44, 123, 125]⟩)), (zt 52)], zr 54 (.bin .geq (zt 53) (zi 0)), za 51 (zt 54)])
  (.cond (zt 51)
  (.seq (.run [zr 55 (.mv (zt 0)), zr 56 (.sls (zt 55) none (some (zi 1))), zr 57 (.bld [(.int .i64 0), (.string ⟨#[]⟩), (.int .i64 0), (.int .i64 0)] [(0, 1, (zi 4)), (1, 1, (zt 56))]), ze (.st 4 (zt 2) (zt 57)), za 3 (zi 1)])
  .ret)
  .skip))))))))))
  rc48_0))
def ce48 : List (Nat × List Nat × List Nat) := []
def ro48 : List RO := [(.ldn 4 (zt 2)), (.mv (zt 3))]
theorem ok48 : okFn Tryz.prog 48 59 ce48 = some (rc48, ro48) := by kernel_rfl
/-! (*lifeline/dialog.parser).take -/
def rc49_0 : RC := (.seq (.run [zr 42 (.mv (zt 0)), zr 43 (.nck (zt 42)), zr 44 (.fa 1 (zt 43)), zr 45 (.ld (zt 44)), zr 46 (.bin .add (zt 45) (zi 1)), zr 47 (.nck (zt 42)), zr 48 (.fa 1 (zt 47)), ze (.st 1 (zt 48) (zt 46))])
  (.seq (.run [zr 49 (.ldn 4 (zt 7)), ze (.st 4 (zt 6) (zt 49))])
  .ret))
def rc49_1 : RC := (.seq (.seq (.run [zr 36 (.mv (zt 0)), zr 37 (.nck (zt 36)), zr 38 (.fa 2 (zt 37)), zr 39 (.ld (zt 38)), zr 40 (.eq true (.iface []) (zt 39) (.const .nilIface))])
  (.cond (zt 40)
  (.seq (.run [zr 41 (.bld [(.int .i64 0), (.string ⟨#[]⟩), (.int .i64 0), (.int .i64 0)] []), ze (.st 4 (zt 6) (zt 41))])
  .ret)
  .skip))
  rc49_0)
def rc49 : RC := (.seq (.run [zf 6 (.al [(.int .i64 0), (.string ⟨#[]⟩), (.int .i64 0), (.int .i64 0)] 87)])
  (.seq (.run [zr 8 (.mv (zt 0)), zr 9 (.nck (zt 8)), zr 10 (.fa 0 (zt 9)), zr 11 (.ld (zt 10)), zr 12 (.mv (zt 0)), zr 13 (.nck (zt 12)), zr 14 (.fa 1 (zt 13)), zr 15 (.ld (zt 14)), zr 16 (.ia 4 (zt 11) (zt 15)), zr 17 (.ldn 4 (zt 16)), ⟨(some 7), none, (.e (.al [(.int .i64 0), (.string ⟨#[]⟩), (.int .i64 0), (.int .i64 0)] 87)), [(11, none, .ld (zt 10)), (15, none, .ld (zt 14)), (17, none, .ldn 4 (zt 16))]⟩, ze (.st 4 (zt 7) (zt 17))])
  (.seq (.seq (.run [zr 18 (.mv (zt 0)), zr 19 (.nck (zt 18)), zr 20 (.fa 2 (zt 19)), zr 21 (.ld (zt 20)), zr 22 (.eq false (.iface []) (zt 21) (.const .nilIface)), zr 23 (.mv (zt 22)), zg 24 23 true (.mv (zt 0)), zg 25 23 true (.mv (zt 1)), zg 26 23 true (.mv (zt 2)), ⟨(some 27), (some (23, true)), (.c (.fn 50 [(zt 24), (zt 25), (zt 26)])), []⟩, zg 28 23 true (.not (zt 27)), zr 29 (.pick (zt 23) (zt 28) (.const (.bool false)))])
  (.cond (zt 29)
  (.run [zr 30 (.mv (zt 0)), zr 31 (.fa 3 (zt 7)), zr 32 (.ld (zt 31)), zc 33 47 [(zi 2), (zt 32)], zr 34 (.nck (zt 30)), zr 35 (.fa 2 (zt 34)), ze (.st 1 (zt 35) (zt 33))])
  .skip))
  rc49_1)))
def ce49 : List (Nat × List Nat × List Nat) := [(1, [0, 1, 2, 3, 4, 5, 6, 7, 8, 9, 10, 11], [0, 1, 3, 7, 0, 16, 48, 112, 255, 511, 0, 2047])]
def ro49 : List RO := [(.ldn 4 (zt 6))]
theorem ok49 : okFn Tryz.prog 49 50 ce49 = some (rc49, ro49) := by kernel_rfl
/-! (*lifeline/dialog.parser).is -/

def rc50 : RC := (.seq (.run [za 6 (.const (.bool false))])
  (.seq (.run [zr 8 (.mv (zt 0)), zr 9 (.nck (zt 8)), zr 10 (.fa 0 (zt 9)), zr 11 (.ld (zt 10)), zr 12 (.mv (zt 0)), zr 13 (.nck (zt 12)), zr 14 (.fa 1 (zt 13)), zr 15 (.ld (zt 14)), zr 16 (.ia 4 (zt 11) (zt 15)), zr 17 (.ldn 4 (zt 16)), ⟨(some 7), none, (.e (.al [(.int .i64 0), (.string ⟨#[]⟩), (.int .i64 0), (.int .i64 0)] 87)), [(11, none, .ld (zt 10)), (15, none, .ld (zt 14)), (17, none, .ldn 4 (zt 16))]⟩, ze (.st 4 (zt 7) (zt 17))])
  (.seq (.run [zr 18 (.mv (zt 0)), zr 19 (.nck (zt 18)), zr 20 (.fa 2 (zt 19)), zr 21 (.ld (zt 20)), zr 22 (.eq false (.iface []) (zt 21) (.const .nilIface)), zr 23 (.mv (zt 22)), zg 24 23 true (.fa 0 (zt 7)), zg 25 23 true (.ld (zt 24)), zg 26 23 true (.mv (zt 1)), zg 27 23 true (.bin .eql (zt 25) (zt 26)), zr 28 (.pick (zt 23) (zt 27) (.const (.bool false))), zr 29 (.mv (zt 28)), zg 30 29 true (.mv (zt 2)), zg 31 29 true (.bin .eql (zt 30) (.const (.string ⟨#[]⟩))), zg 32 29 true (.mv (zt 31)), zg 33 32 false (.fa 1 (zt 7)), zg 34 32 false (.ld (zt 33)), zg 35 32 false (.mv (zt 2)), zg 36 32 false (.bin .eql (zt 34) (zt 35)), zg 37 29 true (.pick (zt 32) (.const (.bool true)) (zt 36)), zr 38 (.pick (zt 29) (zt 37) (.const (.bool false))), za 6 (zt 38)])
  .ret)))
def ce50 : List (Nat × List Nat × List Nat) := [(1, [0, 1, 2, 3, 4, 5, 6, 7, 8, 9, 10, 11], [0, 1, 3, 7, 0, 16, 48, 112, 255, 511, 0, 2047])]
def ro50 : List RO := [(.mv (zt 6))]
theorem ok50 : okFn Tryz.prog 50 39 ce50 = some (rc50, ro50) := by kernel_rfl
/-! lifeline/dialog.words -/

def rc51 : RC := (.seq (.run [za 0 (.const (.slice none 0 0))])
  (.seq (.run [zf 1 (.bsl 9 1 6 [(.string ⟨#[]⟩), (.string ⟨#[]⟩), (.string ⟨#[]⟩), (.string ⟨#[]⟩), (.string ⟨#[]⟩), (.string ⟨#[]⟩)] [(0, 1, (.const (.string ⟨#[115, 101, 110, 100]⟩))), (1, 1, (.const (.string ⟨#[101, 120, 112, 101, 99, 116]⟩))), (2, 1, (.const (.string ⟨#[103, 111]⟩))), (3, 1, (.const (.string ⟨#[116, 114, 121]⟩))), (4, 1, (.const (.string ⟨#[100, 111, 110, 101]⟩))), (5, 1, (.const (.string ⟨#[102, 97, 105, 108]⟩)))]), za 0 (zt 1)])
  .ret))
def ce51 : List (Nat × List Nat × List Nat) := []
def ro51 : List RO := [(.mv (zt 0))]
theorem ok51 : okFn Tryz.prog 51 2 ce51 = some (rc51, ro51) := by kernel_rfl
/-! (*lifeline/dialog.parser).arms -/
def rc52_0 : RC := (.block 1 (.seq (.run [zr 14 (.mv (zt 0)), zc 15 49 [(zt 14), (zi 3), (.const (.string ⟨#[]⟩))], zr 16 (.fld 1 0 (zt 15)), zr 17 (.bld [(.string ⟨#[]⟩), (.string ⟨#[]⟩)] [(0, 1, (zt 16))]), zf 5 (.al [(.string ⟨#[]⟩), (.string ⟨#[]⟩)] 49), ze (.st 2 (zt 5) (zt 17))])
  (.seq (.run [zr 18 (.mv (zt 0)), zc 19 54 [(zt 18)], zr 20 (.fa 1 (zt 5)), ze (.st 1 (zt 20) (zt 19))])
  (.seq (.run [zr 21 (.mv (zt 3)), zr 22 (.ldn 2 (zt 5)), zf 23 (.bsl 49 2 1 [(.string ⟨#[]⟩), (.string ⟨#[]⟩)] [(0, 2, (zt 22))]), zf 24 (.app 49 2 32 (zt 21) (zt 23)), za 3 (zt 24)])
  (.seq (.run [zr 25 (.mv (zt 0)), zc 26 50 [(zt 25), (zi 4), (.const (.string ⟨#[44]⟩))], za 4 (zt 26)])
  (.seq (.run [zr 27 (.mv (zt 4))])
  (.cond (zt 27)
  (.run [zr 28 (.mv (zt 0)), zr 29 (.nck (zt 28)), zr 30 (.fa 1 (zt 29)), zr 31 (.ld (zt 30)), zr 32 (.bin .add (zt 31) (zi 1)), zr 33 (.nck (zt 28)), zr 34 (.fa 1 (zt 33)), ze (.st 1 (zt 34) (zt 32))])
  .skip)))))))
def rc52_1 : RC := (.seq (.seq (.run [zr 6 (.mv (zt 4)), zr 7 (.mv (zt 6)), zg 8 7 true (.mv (zt 0)), zg 9 7 true (.nck (zt 8)), zg 10 7 true (.fa 2 (zt 9)), zg 11 7 true (.ld (zt 10)), zg 12 7 true (.eq false (.iface []) (zt 11) (.const .nilIface)), zr 13 (.pick (zt 7) (zt 12) (.const (.bool false)))])
  (.cond (zt 13)
  .skip
  (.exit 0)))
  rc52_0)
def rc52_2 : RC := (.seq (.run [zr 35 (.mv (zt 3)), za 2 (zt 35)])
  .ret)
def rc52 : RC := (.seq (.run [za 2 (.const (.slice none 0 0))])
  (.seq (.run [za 3 (.const (.slice none 0 0))])
  (.seq (.seq (.run [za 4 (.const (.bool true))])
  (.block 0 (.loop rc52_1)))
  rc52_2)))
def ce52 : List (Nat × List Nat × List Nat) := []
def ro52 : List RO := [(.mv (zt 2))]
theorem ok52 : okFn Tryz.prog 52 36 ce52 = some (rc52, ro52) := by kernel_rfl
/-! (*lifeline/dialog.parser).number -/
def rc53_0 : RC := (.seq (.run [zr 30 (.fa 2 (zt 5)), zr 31 (.ld (zt 30)), za 4 (zt 31)])
  .ret)
def rc53 : RC := (.seq (.run [za 4 (zi 0)])
  (.seq (.run [zr 6 (.mv (zt 0)), zc 7 49 [(zt 6), (zi 2), (.const (.string ⟨#[]⟩))], zf 5 (.al [(.int .i64 0), (.string ⟨#[]⟩), (.int .i64 0), (.int .i64 0)] 87), ze (.st 4 (zt 5) (zt 7))])
  (.seq (.seq (.run [zr 8 (.mv (zt 0)), zr 9 (.nck (zt 8)), zr 10 (.fa 2 (zt 9)), zr 11 (.ld (zt 10)), zr 12 (.eq false (.iface []) (zt 11) (.const .nilIface)), zr 13 (.mv (zt 12)), zg 14 13 true (.fa 2 (zt 5)), zg 15 13 true (.ld (zt 14)), zg 16 13 true (.bin .lss (zt 15) (zi 1)), zg 17 13 true (.mv (zt 16)), zg 18 17 false (.fa 2 (zt 5)), zg 19 17 false (.ld (zt 18)), zg 20 17 false (.mv (zt 1)), zg 21 17 false (.bin .gtr (zt 19) (zt 20)), zg 22 13 true (.pick (zt 17) (.const (.bool true)) (zt 21)), zr 23 (.pick (zt 13) (zt 22) (.const (.bool false)))])
  (.cond (zt 23)
  (.run [zr 24 (.mv (zt 0)), zr 25 (.fa 3 (zt 5)), zr 26 (.ld (zt 25)), zc 27 47 [(zi 5), (zt 26)], zr 28 (.nck (zt 24)), zr 29 (.fa 2 (zt 28)), ze (.st 1 (zt 29) (zt 27))])
  .skip))
  rc53_0)))
def ce53 : List (Nat × List Nat × List Nat) := []
def ro53 : List RO := [(.mv (zt 4))]
theorem ok53 : okFn Tryz.prog 53 32 ce53 = some (rc53, ro53) := by kernel_rfl
/-! (*lifeline/dialog.parser).to -/

def rc54 : RC := (.seq (.run [za 2 (.const (.string ⟨#[]⟩))])
  (.seq (.run [zr 3 (.mv (zt 0)), zc 4 49 [(zt 3), (zi 1), (.const (.string ⟨#[103, 111]⟩))]])
  (.seq (.run [zr 5 (.mv (zt 0)), zc 6 49 [(zt 5), (zi 1), (.const (.string ⟨#[]⟩))], zr 7 (.fld 1 0 (zt 6)), za 2 (zt 7)])
  .ret)))
def ce54 : List (Nat × List Nat × List Nat) := []
def ro54 : List RO := [(.mv (zt 2))]
theorem ok54 : okFn Tryz.prog 54 8 ce54 = some (rc54, ro54) := by kernel_rfl
/-! errors.as -/
def rc58_0 : RC := (.seq (.run [zr 56 (.mv (zt 14)), zr 57 (.mv (zt 1)), zr 58 (.ldn 3 (zt 6)), zr 59 (.mv (zt 3)), zc 60 58 [(zt 56), (zt 57), (zt 58), (zt 59)]])
  (.cond (zt 60)
  (.seq (.run [za 8 (.const (.bool true))])
  .ret)
  .skip))
def rc58_1 : RC := (.seq (.block 4 (.seq (.run [zr 52 (.ia 1 (zt 48) (zt 50)), zr 53 (.ld (zt 52)), za 14 (zt 53)])
  (.seq (.seq (.run [zr 54 (.mv (zt 14)), zr 55 (.eq false (.iface []) (zt 54) (.const .nilIface))])
  (.cond (zt 55)
  (.exit 4)
  .skip))
  rc58_0)))
  (.run [zr 61 (.bin .add (zt 50) (zi 1)), zr 50 (.mv (zt 61))]))
def rc58_2 : RC := (.seq (.run [zr 51 (.bin .lss (zt 50) (zt 49))])
  (.seq (.cond (zt 51)
  .skip
  (.exit 3))
  rc58_1))
def rc58_3 : RC := (.seq (.run [za 8 (.const (.bool false))])
  .ret)
def rc58_4 : RC := (.seq (.run [zr 36 (.mv (zt 0))])
  (.block 2 (.seq (.run [⟨(some 37), none, .bad, []⟩, zr 38 (.ext 1 (zt 37)), zr 39 (.ext 0 (zt 37))])
  (.cond (zt 38)
  (.seq (.run [za 11 (zt 39)])
  (.seq (.run [zr 40 (.mv (zt 11)), ⟨(some 41), none, (.c (.inv (zt 40) "Unwrap" [])), []⟩, za 0 (zt 41)])
  (.seq (.run [zr 42 (.mv (zt 0)), zr 43 (.eq false (.iface []) (zt 42) (.const .nilIface))])
  (.cond (zt 43)
  (.seq (.run [za 8 (.const (.bool false))])
  .ret)
  .skip))))
  (.seq (.run [⟨(some 44), none, .bad, []⟩, zr 45 (.ext 1 (zt 44)), zr 46 (.ext 0 (zt 44))])
  (.cond (zt 45)
  (.seq (.run [za 12 (zt 46)])
  (.seq (.seq (.run [zr 47 (.mv (zt 12)), ⟨(some 48), none, (.c (.inv (zt 47) "Unwrap" [])), []⟩, zr 49 (.lenl (zt 48)), zr 50 (.mv (zi 0))])
  (.block 3 (.loop rc58_2)))
  rc58_3))
  (.seq (.run [za 15 (zt 36)])
  (.seq (.run [za 8 (.const (.bool false))])
  .ret))))))))
def rc58_5 : RC := (.seq (.seq (.run [zr 26 (.mv (zt 0)), ⟨(some 27), none, .bad, []⟩, zr 25 (.mv (zt 27)), zr 28 (.ext 0 (zt 25)), zr 29 (.ext 1 (zt 25)), za 9 (zt 28), za 10 (zt 29)])
  (.seq (.run [zr 30 (.mv (zt 10)), zr 31 (.mv (zt 30)), zg 32 31 true (.mv (zt 9)), zg 33 31 true (.mv (zt 1)), ⟨(some 34), (some (31, true)), (.c (.inv (zt 32) "As" [(zt 33)])), []⟩, zr 35 (.pick (zt 31) (zt 34) (.const (.bool false)))])
  (.cond (zt 35)
  (.seq (.run [za 8 (.const (.bool true))])
  .ret)
  .skip)))
  rc58_4)
def rc58_6 : RC := (.block 1 (.seq (.seq (.run [zr 16 (.mv (zt 0)), zc 17 78 [(zt 16)], zr 18 (.mv (zt 3)), ⟨(some 19), none, (.c (.inv (zt 17) "AssignableTo" [(zt 18)])), []⟩])
  (.cond (zt 19)
  (.seq (.run [zr 20 (.ldn 3 (zt 6)), zc 21 79 [(zt 20)], zr 22 (.mv (zt 0)), zc 23 55 [(zt 22)], zc 24 80 [(zt 21), (zt 23)]])
  (.seq (.run [za 8 (.const (.bool true))])
  .ret))
  .skip))
  rc58_5))
def rc58 : RC := (.seq (.run [zf 6 (.bx 124 (zt 2)), za 8 (.const (.bool false))])
  (.block 0 (.loop rc58_6)))
def ce58 : List (Nat × List Nat × List Nat) := []
def ro58 : List RO := [(.mv (zt 8))]
theorem ok58 : okFn Tryz.prog 58 62 ce58 = some (rc58, ro58) := by kernel_rfl
/-! (*strings.Builder).copyCheck -/

def rc59 : RC := (.seq (.run [zr 2 (.mv (zt 0)), zr 3 (.nck (zt 2)), zr 4 (.fa 0 (zt 3)), zr 5 (.ld (zt 4)), zr 6 (.eq false .ptr (zt 5) (.const (.pointer none)))])
  (.cond (zt 6)
  (.run [zr 7 (.mv (zt 0)), zr 8 (.mv (zt 0)), zr 9 (.cvp (zt 8)), zc 10 81 [(zt 9)], zr 11 (.cvu 96 2 (zt 10)), zr 12 (.nck (zt 7)), zr 13 (.fa 0 (zt 12)), ze (.st 1 (zt 13) (zt 11))])
  (.seq (.run [zr 14 (.mv (zt 0)), zr 15 (.nck (zt 14)), zr 16 (.fa 0 (zt 15)), zr 17 (.ld (zt 16)), zr 18 (.mv (zt 0)), zr 19 (.eq true .ptr (zt 17) (zt 18))])
  (.cond (zt 19)
  .stop
  .skip))))
def ce59 : List (Nat × List Nat × List Nat) := []
def ro59 : List RO := []
theorem ok59 : okFn Tryz.prog 59 20 ce59 = some (rc59, ro59) := by kernel_rfl
/-! strings.Join -/
def rc60_0 : RC := (.seq (.block 2 (.seq (.run [zr 43 (.ia 1 (zt 39) (zt 41)), zr 44 (.ld (zt 43)), za 7 (zt 44)])
  (.seq (.seq (.run [zr 45 (.mv (zt 7)), zr 46 (.lens (zt 45)), zr 47 (.mv (zt 5)), zr 48 (.bin .sub (zi 9223372036854775807) (zt 47)), zr 49 (.bin .gtr (zt 46) (zt 48))])
  (.cond (zt 49)
  (.run [zr 50 (.mki 9 (.const (.string ⟨#[115, 116, 114, 105, 110, 103, 115, 58, 32, 74, 111, 105, 110, 32, 111, 117, 116, 112, 117, 116, 32, 108, 101, 110, 103, 116, 104, 32, 111, 118, 101, 114, 102, 108, 111, 119]⟩))), ⟨none, none, .bad, []⟩])
  .skip))
  (.run [zr 51 (.mv (zt 5)), zr 52 (.mv (zt 7)), zr 53 (.lens (zt 52)), zr 54 (.bin .add (zt 51) (zt 53)), za 5 (zt 54)]))))
  (.run [zr 55 (.bin .add (zt 41) (zi 1)), zr 41 (.mv (zt 55))]))
def rc60_1 : RC := (.seq (.run [zr 42 (.bin .lss (zt 41) (zt 40))])
  (.seq (.cond (zt 42)
  .skip
  (.exit 1))
  rc60_0))
def rc60_2 : RC := (.seq (.block 4 (.seq (.run [zr 67 (.ia 1 (zt 63) (zt 65)), zr 68 (.ld (zt 67)), za 10 (zt 68)])
  (.seq (.run [zr 69 (.mv (zt 1)), zc 70 38 [(zt 8), (zt 69)]])
  (.run [zr 71 (.mv (zt 10)), zc 72 38 [(zt 8), (zt 71)]]))))
  (.run [zr 73 (.bin .add (zt 65) (zi 1)), zr 65 (.mv (zt 73))]))
def rc60_3 : RC := (.seq (.run [zr 66 (.bin .lss (zt 65) (zt 64))])
  (.seq (.cond (zt 66)
  .skip
  (.exit 3))
  rc60_2))
def rc60_4 : RC := (.seq (.run [zc 74 40 [(zt 8)], za 4 (zt 74)])
  .ret)
def rc60_5 : RC := (.seq (.run [zf 8 (.al [(.pointer none), (.slice none 0 0)] 96)])
  (.seq (.run [zr 56 (.mv (zt 5)), zc 57 82 [(zt 8), (zt 56)]])
  (.seq (.run [zr 58 (.mv (zt 0)), zr 59 (.ia 1 (zt 58) (zi 0)), zr 60 (.ld (zt 59)), zc 61 38 [(zt 8), (zt 60)]])
  (.seq (.seq (.run [zr 62 (.mv (zt 0)), zr 63 (.sl 1 (zt 62) (some (zi 1)) none), zr 64 (.lenl (zt 63)), zr 65 (.mv (zi 0))])
  (.block 3 (.loop rc60_3)))
  rc60_4))))
def rc60_6 : RC := (.seq (.seq (.run [zr 39 (.mv (zt 0)), zr 40 (.lenl (zt 39)), zr 41 (.mv (zi 0))])
  (.block 1 (.loop rc60_1)))
  rc60_5)
def rc60_7 : RC := (.seq (.run [za 5 (zi 0)])
  (.seq (.seq (.run [zr 20 (.mv (zt 1)), zr 21 (.lens (zt 20)), zr 22 (.bin .gtr (zt 21) (zi 0))])
  (.cond (zt 22)
  (.seq (.seq (.run [zr 23 (.mv (zt 1)), zr 24 (.lens (zt 23)), zr 25 (.mv (zt 0)), zr 26 (.lenl (zt 25)), zr 27 (.bin .sub (zt 26) (zi 1)), zr 28 (.bin .quo (zi 9223372036854775807) (zt 27)), zr 29 (.bin .geq (zt 24) (zt 28))])
  (.cond (zt 29)
  (.run [zr 30 (.mki 9 (.const (.string ⟨#[115, 116, 114, 105, 110, 103, 115, 58, 32, 74, 111, 105, 110, 32, 111, 117, 116, 112, 117, 116, 32, 108, 101, 110, 103, 116, 104, 32, 111, 118, 101, 114, 102, 108, 111, 119]⟩))), ⟨none, none, .bad, []⟩])
  .skip))
  (.run [zr 31 (.mv (zt 5)), zr 32 (.mv (zt 1)), zr 33 (.lens (zt 32)), zr 34 (.mv (zt 0)), zr 35 (.lenl (zt 34)), zr 36 (.bin .sub (zt 35) (zi 1)), zr 37 (.bin .mul (zt 33) (zt 36)), zr 38 (.bin .add (zt 31) (zt 37)), za 5 (zt 38)]))
  .skip))
  rc60_6))
def rc60 : RC := (.seq (.run [za 4 (.const (.string ⟨#[]⟩))])
  (.seq (.seq (.run [zr 11 (.mv (zt 0)), zr 12 (.lenl (zt 11))])
  (.block 0 (.seq (.run [zr 14 (.bin .eql (zt 12) (zi 0)), za 13 (zt 14)])
  (.cond (zt 13)
  (.seq (.run [za 4 (.const (.string ⟨#[]⟩))])
  .ret)
  (.seq (.run [zr 16 (.bin .eql (zt 12) (zi 1)), za 15 (zt 16)])
  (.cond (zt 15)
  (.seq (.run [zr 17 (.mv (zt 0)), zr 18 (.ia 1 (zt 17) (zi 0)), zr 19 (.ld (zt 18)), za 4 (zt 19)])
  .ret)
  .skip))))))
  rc60_7))
def ce60 : List (Nat × List Nat × List Nat) := []
def ro60 : List RO := [(.mv (zt 4))]
theorem ok60 : okFn Tryz.prog 60 75 ce60 = some (rc60, ro60) := by kernel_rfl
/-! strconv.Itoa -/

def rc61 : RC := (.seq (.run [za 2 (.const (.string ⟨#[]⟩))])
  (.seq (.run [zr 3 (.mv (zt 0)), zc 4 83 [(zt 3)], za 2 (zt 4)])
  .ret))
def ce61 : List (Nat × List Nat × List Nat) := []
def ro61 : List RO := [(.mv (zt 2))]
theorem ok61 : okFn Tryz.prog 61 5 ce61 = some (rc61, ro61) := by kernel_rfl
/-! (*strings.Builder).WriteByte -/

def rc62 : RC := (.seq (.run [za 4 (.const .nilIface)])
  (.seq (.run [zr 5 (.mv (zt 0)), zc 6 59 [(zt 5)]])
  (.seq (.run [zr 7 (.mv (zt 0)), zr 8 (.mv (zt 0)), zr 9 (.nck (zt 8)), zr 10 (.fa 1 (zt 9)), zr 11 (.ld (zt 10)), zr 12 (.mv (zt 1)), zf 13 (.bsl 5 1 1 [(.int .u8 0)] [(0, 1, (zt 12))]), zf 14 (.app 5 1 1 (zt 11) (zt 13)), zr 15 (.nck (zt 7)), zr 16 (.fa 1 (zt 15)), ze (.st 1 (zt 16) (zt 14))])
  (.seq (.run [za 4 (.const .nilIface)])
  .ret))))
def ce62 : List (Nat × List Nat × List Nat) := []
def ro62 : List RO := [(.mv (zt 4))]
theorem ok62 : okFn Tryz.prog 62 17 ce62 = some (rc62, ro62) := by kernel_rfl
/-! (*lifeline/play.Play).one -/
def rc63_0 : RC := (.seq (.block 2 (.seq (.run [zr 32 (.ia 2 (zt 28) (zt 30)), zr 33 (.ldn 2 (zt 32)), zf 7 (.al [(.string ⟨#[]⟩), (.string ⟨#[]⟩)] 49), ze (.st 2 (zt 7) (zt 33))])
  (.run [zr 34 (.mv (zt 5)), zr 35 (.fa 0 (zt 7)), zr 36 (.ld (zt 35)), zf 37 (.bsl 9 1 1 [(.string ⟨#[]⟩)] [(0, 1, (zt 36))]), zf 38 (.app 9 1 16 (zt 34) (zt 37)), za 5 (zt 38)])))
  (.run [zr 39 (.bin .add (zt 30) (zi 1)), zr 30 (.mv (zt 39))]))
def rc63_1 : RC := (.seq (.run [zr 31 (.bin .lss (zt 30) (zt 29))])
  (.seq (.cond (zt 31)
  .skip
  (.exit 1))
  rc63_0))
def rc63_2 : RC := (.seq (.run [zr 41 (.mv (zt 0)), zr 42 (.mv (zt 5)), zc 43 45 [(zt 42)], zr 40 (.mv (zt 43)), zr 44 (.ext 0 (zt 40)), zr 45 (.ext 1 (zt 40)), zr 46 (.nck (zt 41)), zr 47 (.fa 3 (zt 46)), ze (.st 1 (zt 47) (zt 44))])
  (.run [zr 48 (.mv (zt 0)), zr 49 (.fa 4 (zt 3)), zr 50 (.ld (zt 49)), zr 51 (.mx (zi 1) (zt 50)), zr 52 (.nck (zt 48)), zr 53 (.fa 4 (zt 52)), ze (.st 1 (zt 53) (zt 51))]))
def rc63_3 : RC := (.seq (.run [za 4 (.const (.slice none 0 0))])
  .ret)
def rc63 : RC := (.seq (.run [zf 3 (.bx 29 (zt 1)), za 4 (.const (.slice none 0 0))])
  (.seq (.seq (.run [zr 8 (.fa 1 (zt 3)), zr 9 (.ld (zt 8))])
  (.block 0 (.seq (.run [zr 14 (.bin .eql (zt 9) (zi 0)), za 13 (zt 14)])
  (.cond (zt 13)
  (.seq (.run [zr 15 (.mv (zt 0)), zr 16 (.nck (zt 15)), zr 17 (.fa 1 (zt 16)), zr 18 (.ld (zt 17)), zr 19 (.bin .add (zt 18) (zi 1)), zr 20 (.nck (zt 15)), zr 21 (.fa 1 (zt 20)), ze (.st 1 (zt 21) (zt 19))])
  (.seq (.run [zr 22 (.fa 2 (zt 3)), zr 23 (.ld (zt 22)), zf 24 (.s2b 5 (zt 23)), za 4 (zt 24)])
  .ret))
  (.seq (.run [zr 26 (.bin .eql (zt 9) (zi 1)), za 25 (zt 26)])
  (.cond (zt 25)
  (.seq (.run [za 5 (.const (.slice none 0 0))])
  (.seq (.seq (.run [zr 27 (.fa 3 (zt 3)), zr 28 (.ld (zt 27)), zr 29 (.lenl (zt 28)), zr 30 (.mv (zi 0))])
  (.block 1 (.loop rc63_1)))
  rc63_2))
  (.seq (.run [zr 55 (.bin .eql (zt 9) (zi 2)), za 54 (zt 55)])
  (.cond (zt 54)
  (.run [zr 56 (.mv (zt 0)), zr 57 (.fa 5 (zt 3)), zr 58 (.ld (zt 57)), zc 59 43 [(zt 56), (zt 58)]])
  (.seq (.run [zr 61 (.bin .eql (zt 9) (zi 3)), za 60 (zt 61)])
  (.cond (zt 60)
  (.seq (.run [zr 62 (.mv (zt 0)), zr 63 (.nck (zt 62)), zr 64 (.fa 2 (zt 63)), zr 65 (.ld (zt 64)), zr 66 (.mv (zt 0)), zr 67 (.nck (zt 66)), zr 68 (.fa 1 (zt 67)), zr 69 (.ld (zt 68)), zr 70 (.lku 0 false (.int .i64 0) (zt 65) (zt 69)), zr 71 (.bin .add (zt 70) (zi 1)), ze (.mup 0 (zt 65) (zt 69) (zt 71))])
  (.seq (.run [zr 72 (.mv (zt 0)), zr 73 (.nck (zt 72)), zr 74 (.fa 2 (zt 73)), zr 75 (.ld (zt 74)), zr 76 (.mv (zt 0)), zr 77 (.nck (zt 76)), zr 78 (.fa 1 (zt 77)), zr 79 (.ld (zt 78)), zr 80 (.lku 0 false (.int .i64 0) (zt 75) (zt 79)), zr 81 (.fa 4 (zt 3)), zr 82 (.ld (zt 81)), zr 83 (.bin .leq (zt 80) (zt 82))])
  (.cond (zt 83)
  (.run [zr 84 (.mv (zt 0)), zr 85 (.fa 5 (zt 3)), zr 86 (.ld (zt 85)), zc 87 43 [(zt 84), (zt 86)]])
  (.seq (.run [zr 88 (.mv (zt 0)), zr 89 (.nck (zt 88)), zr 90 (.fa 2 (zt 89)), zr 91 (.ld (zt 90)), zr 92 (.mv (zt 0)), zr 93 (.nck (zt 92)), zr 94 (.fa 1 (zt 93)), zr 95 (.ld (zt 94)), ze (.mup 0 (zt 91) (zt 95) (zi 0))])
  (.run [zr 96 (.mv (zt 0)), zr 97 (.nck (zt 96)), zr 98 (.fa 1 (zt 97)), zr 99 (.ld (zt 98)), zr 100 (.bin .add (zt 99) (zi 1)), zr 101 (.nck (zt 96)), zr 102 (.fa 1 (zt 101)), ze (.st 1 (zt 102) (zt 100))])))))
  (.seq (.run [zr 104 (.bin .eql (zt 9) (zi 4)), za 103 (zt 104)])
  (.cond (zt 103)
  (.run [zr 105 (.mv (zt 0)), zr 106 (.nck (zt 105)), zr 107 (.fa 6 (zt 106)), ze (.st 1 (zt 107) (zi 1))])
  (.run [zr 10 (.mv (zt 0)), zr 11 (.nck (zt 10)), zr 12 (.fa 6 (zt 11)), ze (.st 1 (zt 12) (zi 2))])))))))))))))
  rc63_3))
def ce63 : List (Nat × List Nat × List Nat) := [(18, [0, 1, 2, 3, 4, 5, 6, 7, 8, 9, 10], [0, 1, 3, 7, 0, 16, 48, 112, 255, 511, 1023]), (19, [0, 1, 2, 3, 4, 5, 6, 7, 8, 9, 10, 11], [0, 1, 3, 7, 0, 16, 48, 112, 255, 0, 512, 2047]), (21, [0, 1, 2, 3, 4, 5, 6, 7, 8], [0, 1, 3, 7, 0, 16, 48, 112, 255])]
def ro63 : List RO := [(.mv (zt 4))]
theorem ok63 : okFn Tryz.prog 63 108 ce63 = some (rc63, ro63) := by kernel_rfl
/-! (*lifeline/nfa.Table).Step -/
def rc64_0 : RC := (.seq (.block 3 (.seq (.run [zr 48 (.mv (zt 46)), za 13 (zt 48)])
  (.run [zr 49 (.mv (zt 12)), zr 50 (.mv (zt 49)), zg 51 50 false (.mv (zt 13)), zg 52 50 false (.mv (zt 0)), zg 53 50 false (.nck (zt 52)), zg 54 50 false (.fa 1 (zt 53)), zg 55 50 false (.ld (zt 54)), zg 56 50 false (.lenl (zt 55)), zg 57 50 false (.bin .lss (zt 51) (zt 56)), zg 58 50 false (.mv (zt 57)), zg 59 58 true (.mv (zt 1)), zg 60 58 true (.mv (zt 13)), zg 61 58 true (.ia 1 (zt 59) (zt 60)), zg 62 58 true (.ld (zt 61)), zg 63 50 false (.pick (zt 58) (zt 62) (.const (.bool false))), zg 64 50 false (.mv (zt 63)), zg 65 64 true (.mv (zt 0)), zg 66 64 true (.nck (zt 65)), zg 67 64 true (.fa 1 (zt 66)), zg 68 64 true (.ld (zt 67)), zg 69 64 true (.mv (zt 13)), zg 70 64 true (.ia 1 (zt 68) (zt 69)), zg 71 64 true (.ld (zt 70)), zg 72 64 true (.mv (zt 10)), zg 73 64 true (.ia 1 (zt 71) (zt 72)), zg 74 64 true (.ld (zt 73)), zg 75 50 false (.pick (zt 64) (zt 74) (.const (.bool false))), zr 76 (.pick (zt 50) (.const (.bool true)) (zt 75)), za 12 (zt 76)])))
  (.run [zr 77 (.bin .add (zt 46) (zi 1)), zr 46 (.mv (zt 77))]))
def rc64_1 : RC := (.seq (.run [zr 47 (.bin .lss (zt 46) (zt 45))])
  (.seq (.cond (zt 47)
  .skip
  (.exit 2))
  rc64_0))
def rc64_2 : RC := (.seq (.run [zr 34 (.mv (zt 3)), zr 35 (.mv (zt 34)), zg 36 35 true (.mv (zt 0)), zg 37 35 true (.nck (zt 36)), zg 38 35 true (.fa 2 (zt 37)), zg 39 35 true (.ld (zt 38)), zg 40 35 true (.mv (zt 10)), zg 41 35 true (.ia 1 (zt 39) (zt 40)), zg 42 35 true (.ld (zt 41)), zr 43 (.pick (zt 35) (zt 42) (.const (.bool false))), za 12 (zt 43)])
  (.seq (.seq (.run [zr 44 (.mv (zt 1)), zr 45 (.lenl (zt 44)), zr 46 (.mv (zi 0))])
  (.block 2 (.loop rc64_1)))
  (.run [zr 78 (.mv (zt 9)), zr 79 (.mv (zt 10)), zr 80 (.mv (zt 12)), zr 81 (.ia 1 (zt 78) (zt 79)), ze (.st 1 (zt 81) (zt 80))])))
def rc64_3 : RC := (.seq (.block 1 (.seq (.run [zr 27 (.mv (zt 25)), zr 28 (.ia 4 (zt 23) (zt 25)), zr 29 (.ldn 4 (zt 28)), zf 11 (.al [(.int .u64 0), (.int .u64 0), (.int .u64 0), (.int .u64 0)] 73), za 10 (zt 27), ze (.st 4 (zt 11) (zt 29))])
  (.seq (.seq (.run [zr 30 (.ldn 4 (zt 11)), zr 31 (.mv (zt 2)), zc 32 84 [(zt 30), (zt 31)], zr 33 (.not (zt 32))])
  (.cond (zt 33)
  (.exit 1)
  .skip))
  rc64_2)))
  (.run [zr 82 (.bin .add (zt 25) (zi 1)), zr 25 (.mv (zt 82))]))
def rc64_4 : RC := (.seq (.run [zr 26 (.bin .lss (zt 25) (zt 24))])
  (.seq (.cond (zt 26)
  .skip
  (.exit 0))
  rc64_3))
def rc64_5 : RC := (.seq (.run [zr 83 (.mv (zt 9)), za 8 (zt 83)])
  .ret)
def rc64 : RC := (.seq (.run [za 8 (.const (.slice none 0 0))])
  (.seq (.run [zr 14 (.mv (zt 0)), zr 15 (.nck (zt 14)), zr 16 (.fa 0 (zt 15)), zr 17 (.ld (zt 16)), zr 18 (.lenl (zt 17)), zf 19 (.mks 4 1 (.bool false) (zt 18) (zt 18)), za 9 (zt 19)])
  (.seq (.seq (.run [zr 20 (.mv (zt 0)), zr 21 (.nck (zt 20)), zr 22 (.fa 0 (zt 21)), zr 23 (.ld (zt 22)), zr 24 (.lenl (zt 23)), zr 25 (.mv (zi 0))])
  (.block 0 (.loop rc64_4)))
  rc64_5)))
def ce64 : List (Nat × List Nat × List Nat) := []
def ro64 : List RO := [(.mv (zt 8))]
theorem ok64 : okFn Tryz.prog 64 84 ce64 = some (rc64, ro64) := by kernel_rfl
/-! (*lifeline/nfa.Table).Ends -/
def rc65_0 : RC := (.seq (.block 1 (.seq (.run [zr 11 (.mv (zt 9)), zr 12 (.ia 1 (zt 7) (zt 9)), zr 13 (.ld (zt 12)), za 5 (zt 11), za 6 (zt 13)])
  (.seq (.run [zr 14 (.mv (zt 6)), zr 15 (.mv (zt 14)), zg 16 15 true (.mv (zt 5)), zg 17 15 true (.mv (zt 0)), zg 18 15 true (.nck (zt 17)), zg 19 15 true (.fa 3 (zt 18)), zg 20 15 true (.ld (zt 19)), zg 21 15 true (.lenl (zt 20)), zg 22 15 true (.bin .lss (zt 16) (zt 21)), zr 23 (.pick (zt 15) (zt 22) (.const (.bool false))), zr 24 (.mv (zt 23)), zg 25 24 true (.mv (zt 0)), zg 26 24 true (.nck (zt 25)), zg 27 24 true (.fa 3 (zt 26)), zg 28 24 true (.ld (zt 27)), zg 29 24 true (.mv (zt 5)), zg 30 24 true (.ia 1 (zt 28) (zt 29)), zg 31 24 true (.ld (zt 30)), zr 32 (.pick (zt 24) (zt 31) (.const (.bool false)))])
  (.cond (zt 32)
  (.seq (.run [za 4 (.const (.bool true))])
  .ret)
  .skip))))
  (.run [zr 33 (.bin .add (zt 9) (zi 1)), zr 9 (.mv (zt 33))]))
def rc65_1 : RC := (.seq (.run [zr 10 (.bin .lss (zt 9) (zt 8))])
  (.seq (.cond (zt 10)
  .skip
  (.exit 0))
  rc65_0))
def rc65_2 : RC := (.seq (.run [za 4 (.const (.bool false))])
  .ret)
def rc65 : RC := (.seq (.run [za 4 (.const (.bool false))])
  (.seq (.seq (.run [zr 7 (.mv (zt 1)), zr 8 (.lenl (zt 7)), zr 9 (.mv (zi 0))])
  (.block 0 (.loop rc65_1)))
  rc65_2))
def ce65 : List (Nat × List Nat × List Nat) := []
def ro65 : List RO := [(.mv (zt 4))]
theorem ok65 : okFn Tryz.prog 65 34 ce65 = some (rc65, ro65) := by kernel_rfl
/-! lifeline/regex.Parse -/
def rc66_0 : RC := (.seq (.run [zr 32 (.ldn 6 (zt 5)), ze (.st 6 (zt 2) (zt 32)), za 3 (.const .nilIface)])
  .ret)
def rc66_1 : RC := (.seq (.seq (.run [zr 28 (.mv (zt 6)), zr 29 (.eq true (.iface []) (zt 28) (.const .nilIface))])
  (.cond (zt 29)
  (.seq (.run [zr 30 (.bld [(.int .i64 0), (.int .u64 0), (.int .u64 0), (.int .u64 0), (.int .u64 0), (.slice none 0 0)] []), zr 31 (.mv (zt 6)), ze (.st 6 (zt 2) (zt 30)), za 3 (zt 31)])
  .ret)
  .skip))
  rc66_0)
def rc66_2 : RC := (.seq (.run [zr 12 (.mv (zt 0)), zr 13 (.bld [(.string ⟨#[]⟩), (.int .i64 0)] [(0, 1, (zt 12))]), zf 14 (.bx 178 (zt 13)), za 4 (zt 14)])
  (.seq (.run [zr 16 (.mv (zt 4)), zc 17 85 [(zt 16), (zi 0)], zr 15 (.mv (zt 17)), zr 18 (.ext 0 (zt 15)), zr 19 (.ext 1 (zt 15)), zf 5 (.al [(.int .i64 0), (.int .u64 0), (.int .u64 0), (.int .u64 0), (.int .u64 0), (.slice none 0 0)] 76), ze (.st 6 (zt 5) (zt 18)), za 6 (zt 19)])
  (.seq (.seq (.run [zr 20 (.mv (zt 6)), zr 21 (.eq false (.iface []) (zt 20) (.const .nilIface)), zr 22 (.mv (zt 21)), zg 23 22 true (.mv (zt 4)), ⟨(some 24), (some (22, true)), (.c (.fn 86 [(zt 23)])), []⟩, zr 25 (.pick (zt 22) (zt 24) (.const (.bool false)))])
  (.cond (zt 25)
  (.run [zr 26 (.mv (zt 4)), zc 27 87 [(zt 26)], za 6 (zt 27)])
  .skip))
  rc66_1)))
def rc66 : RC := (.seq (.run [zf 2 (.al [(.int .i64 0), (.int .u64 0), (.int .u64 0), (.int .u64 0), (.int .u64 0), (.slice none 0 0)] 76), za 3 (.const .nilIface)])
  (.seq (.seq (.run [zr 7 (.mv (zt 0)), zr 8 (.lens (zt 7)), zr 9 (.bin .gtr (zt 8) (zi 64))])
  (.cond (zt 9)
  (.seq (.run [zr 10 (.bld [(.int .i64 0), (.int .u64 0), (.int .u64 0), (.int .u64 0), (.int .u64 0), (.slice none 0 0)] []), zc 11 47 [(zi 7), (zi 64)], ze (.st 6 (zt 2) (zt 10)), za 3 (zt 11)])
  .ret)
  .skip))
  rc66_2))
def ce66 : List (Nat × List Nat × List Nat) := []
def ro66 : List RO := [(.ldn 6 (zt 2)), (.mv (zt 3))]
theorem ok66 : okFn Tryz.prog 66 33 ce66 = some (rc66, ro66) := by kernel_rfl
/-! lifeline/nfa.Of -/
def rc67_0 : RC := (.seq (.block 3 (.seq (.run [zr 67 (.mv (zt 65)), za 8 (zt 67)])
  (.run [zr 68 (.mv (zt 7)), zr 69 (.mv (zt 8)), zr 70 (.mv (zt 3)), zr 71 (.nck (zt 70)), zr 72 (.fa 1 (zt 71)), zr 73 (.ld (zt 72)), zr 74 (.mv (zt 6)), zr 75 (.mv (zt 8)), zr 76 (.bld [(.int .i64 0), (.int .i64 0)] [(0, 1, (zt 74)), (1, 1, (zt 75))]), zr 77 (.lku 2 false (.bool false) (zt 73) (zt 76)), zr 78 (.ia 1 (zt 68) (zt 69)), ze (.st 1 (zt 78) (zt 77))])))
  (.run [zr 79 (.bin .add (zt 65) (zi 1)), zr 65 (.mv (zt 79))]))
def rc67_1 : RC := (.seq (.run [zr 66 (.bin .lss (zt 65) (zt 64))])
  (.seq (.cond (zt 66)
  .skip
  (.exit 2))
  rc67_0))
def rc67_2 : RC := (.seq (.block 1 (.seq (.run [zr 30 (.mv (zt 28)), za 6 (zt 30)])
  (.seq (.run [zr 31 (.mv (zt 5)), zr 32 (.mv (zt 5)), zr 33 (.nck (zt 32)), zr 34 (.fa 2 (zt 33)), zr 35 (.ld (zt 34)), zr 36 (.fa 0 (zt 4)), zr 37 (.ld (zt 36)), zr 38 (.mv (zt 6)), zr 39 (.lku 0 false (.bool false) (zt 37) (zt 38)), ⟨(some 40), none, (.e (.bsl 4 1 1 [(.bool false)] [(0, 1, (zt 39))])), [(35, none, .ld (zt 34))]⟩, zf 41 (.app 4 1 1 (zt 35) (zt 40)), zr 42 (.nck (zt 31)), zr 43 (.fa 2 (zt 42)), ze (.st 1 (zt 43) (zt 41))])
  (.seq (.run [zr 44 (.mv (zt 5)), zr 45 (.mv (zt 5)), zr 46 (.nck (zt 45)), zr 47 (.fa 3 (zt 46)), zr 48 (.ld (zt 47)), zr 49 (.fa 1 (zt 4)), zr 50 (.ld (zt 49)), zr 51 (.mv (zt 6)), zr 52 (.lku 0 false (.bool false) (zt 50) (zt 51)), ⟨(some 53), none, (.e (.bsl 4 1 1 [(.bool false)] [(0, 1, (zt 52))])), [(48, none, .ld (zt 47))]⟩, zf 54 (.app 4 1 1 (zt 48) (zt 53)), zr 55 (.nck (zt 44)), zr 56 (.fa 3 (zt 55)), ze (.st 1 (zt 56) (zt 54))])
  (.seq (.run [zr 57 (.mv (zt 3)), zr 58 (.nck (zt 57)), zr 59 (.fa 0 (zt 58)), zr 60 (.ld (zt 59)), zr 61 (.lenl (zt 60)), zf 62 (.mks 4 1 (.bool false) (zt 61) (zt 61)), za 7 (zt 62)])
  (.seq (.seq (.run [zr 63 (.mv (zt 7)), zr 64 (.lenl (zt 63)), zr 65 (.mv (zi 0))])
  (.block 2 (.loop rc67_1)))
  (.run [zr 80 (.mv (zt 5)), zr 81 (.mv (zt 5)), zr 82 (.nck (zt 81)), zr 83 (.fa 1 (zt 82)), zr 84 (.ld (zt 83)), zr 85 (.mv (zt 7)), zf 86 (.bsl 142 1 1 [(.slice none 0 0)] [(0, 1, (zt 85))]), zf 87 (.app 142 1 24 (zt 84) (zt 86)), zr 88 (.nck (zt 80)), zr 89 (.fa 1 (zt 88)), ze (.st 1 (zt 89) (zt 87))])))))))
  (.run [zr 90 (.bin .add (zt 28) (zi 1)), zr 28 (.mv (zt 90))]))
def rc67_3 : RC := (.seq (.run [zr 29 (.bin .lss (zt 28) (zt 27))])
  (.seq (.cond (zt 29)
  .skip
  (.exit 0))
  rc67_2))
def rc67_4 : RC := (.seq (.run [zr 91 (.mv (zt 5)), za 2 (zt 91)])
  .ret)
def rc67 : RC := (.seq (.run [zf 1 (.bx 76 (zt 0)), za 2 (.const (.pointer none))])
  (.seq (.run [zf 9 (.mkm), zr 10 (.bld [(.slice none 0 0), (.map none)] [(1, 1, (zt 9))]), zf 11 (.bx 183 (zt 10)), za 3 (zt 11)])
  (.seq (.run [zr 12 (.mv (zt 3)), zr 13 (.ldn 6 (zt 1)), zc 14 88 [(zt 12), (zt 13)], zf 4 (.al [(.map none), (.map none), (.bool false)] 186), ze (.st 3 (zt 4) (zt 14))])
  (.seq (.run [zr 15 (.mv (zt 3)), zr 16 (.nck (zt 15)), zr 17 (.fa 0 (zt 16)), zr 18 (.ld (zt 17)), zr 19 (.fa 2 (zt 4)), zr 20 (.ld (zt 19)), zr 21 (.bld [(.slice none 0 0), (.slice none 0 0), (.slice none 0 0), (.slice none 0 0), (.bool false)] [(0, 1, (zt 18)), (4, 1, (zt 20))]), zf 22 (.bx 175 (zt 21)), za 5 (zt 22)])
  (.seq (.seq (.run [zr 23 (.mv (zt 3)), zr 24 (.nck (zt 23)), zr 25 (.fa 0 (zt 24)), zr 26 (.ld (zt 25)), zr 27 (.lenl (zt 26)), zr 28 (.mv (zi 0))])
  (.block 0 (.loop rc67_3)))
  rc67_4)))))
def ce67 : List (Nat × List Nat × List Nat) := [(3, [0, 1, 2, 3, 4, 5, 6, 7, 8], [0, 1, 3, 7, 0, 16, 63, 127, 255]), (7, [0, 1, 2, 3, 4, 5, 6, 7, 8, 9, 10, 11, 12, 13], [0, 0, 2, 6, 14, 0, 32, 0, 224, 480, 1022, 2047, 4095, 8191]), (8, [0, 1, 2, 3, 4, 5, 6, 7, 8, 9, 10, 11, 12, 13], [0, 0, 2, 6, 14, 0, 32, 0, 224, 480, 1022, 2047, 4095, 8191])]
def ro67 : List RO := [(.mv (zt 2))]
theorem ok67 : okFn Tryz.prog 67 92 ce67 = some (rc67, ro67) := by kernel_rfl
/-! (*lifeline/nfa.Table).Empty -/

def rc68 : RC := (.seq (.run [za 2 (.const (.bool false))])
  (.seq (.run [zr 3 (.mv (zt 0)), zr 4 (.nck (zt 3)), zr 5 (.fa 4 (zt 4)), zr 6 (.ld (zt 5)), za 2 (zt 6)])
  .ret))
def ce68 : List (Nat × List Nat × List Nat) := []
def ro68 : List RO := [(.mv (zt 2))]
theorem ok68 : okFn Tryz.prog 68 7 ce68 = some (rc68, ro68) := by kernel_rfl
/-! lifeline/lifelinelaw06.byteNode -/

def rc69 : RC := (.seq (.run [zf 2 (.al [(.int .i64 0), (.int .u64 0), (.int .u64 0), (.int .u64 0), (.int .u64 0), (.slice none 0 0)] 76)])
  (.seq (.run [zr 3 (.bld [(.int .u64 0), (.int .u64 0), (.int .u64 0), (.int .u64 0)] []), zr 4 (.mv (zt 0)), zc 5 71 [(zt 3), (zt 4)], zr 6 (.bld [(.int .i64 0), (.int .u64 0), (.int .u64 0), (.int .u64 0), (.int .u64 0), (.slice none 0 0)] [(0, 1, (zi 1)), (1, 4, (zt 5))]), ze (.st 6 (zt 2) (zt 6))])
  .ret))
def ce69 : List (Nat × List Nat × List Nat) := []
def ro69 : List RO := [(.ldn 6 (zt 2))]
theorem ok69 : okFn Tryz.prog 69 7 ce69 = some (rc69, ro69) := by kernel_rfl
/-! (lifeline/regex.Set).Not -/
def rc70_0 : RC := (.seq (.block 1 (.seq (.run [zr 6 (.mv (zt 4)), za 3 (zt 6)])
  (.run [zr 7 (.mv (zt 3)), zr 8 (.mv (zt 3)), zr 9 (.iaa 4 1 (zt 1) (zt 8)), zr 10 (.ld (zt 9)), zr 11 (.com (zt 10)), zr 12 (.iaa 4 1 (zt 1) (zt 7)), ze (.st 1 (zt 12) (zt 11))])))
  (.run [zr 13 (.bin .add (zt 4) (zi 1)), zr 4 (.mv (zt 13))]))
def rc70_1 : RC := (.seq (.run [zr 5 (.bin .lss (zt 4) (zi 4))])
  (.seq (.cond (zt 5)
  .skip
  (.exit 0))
  rc70_0))
def rc70_2 : RC := (.seq (.run [zr 14 (.ldn 4 (zt 1)), ze (.st 4 (zt 2) (zt 14))])
  .ret)
def rc70 : RC := (.seq (.run [zf 1 (.bx 73 (zt 0)), zf 2 (.al [(.int .u64 0), (.int .u64 0), (.int .u64 0), (.int .u64 0)] 73)])
  (.seq (.seq (.run [zr 4 (.mv (zi 0))])
  (.block 0 (.loop rc70_1)))
  rc70_2))
def ce70 : List (Nat × List Nat × List Nat) := []
def ro70 : List RO := [(.ldn 4 (zt 2))]
theorem ok70 : okFn Tryz.prog 70 15 ce70 = some (rc70, ro70) := by kernel_rfl
/-! (lifeline/regex.Set).With -/

def rc71 : RC := (.seq (.run [zf 2 (.bx 73 (zt 0)), zf 4 (.al [(.int .u64 0), (.int .u64 0), (.int .u64 0), (.int .u64 0)] 73)])
  (.seq (.run [zr 5 (.mv (zt 1)), zr 6 (.bin .quo (zt 5) (.const (.int .u8 64))), zr 7 (.iaa 4 1 (zt 2) (zt 6)), zr 8 (.ld (zt 7)), zr 9 (.mv (zt 1)), zr 10 (.bin .rem (zt 9) (.const (.int .u8 64))), zr 11 (.bin .shl (.const (.int .u64 1)) (zt 10)), zr 12 (.bin .or (zt 8) (zt 11)), zr 13 (.iaa 4 1 (zt 2) (zt 6)), ze (.st 1 (zt 13) (zt 12))])
  (.seq (.run [zr 14 (.ldn 4 (zt 2)), ze (.st 4 (zt 4) (zt 14))])
  .ret)))
def ce71 : List (Nat × List Nat × List Nat) := []
def ro71 : List RO := [(.ldn 4 (zt 4))]
theorem ok71 : okFn Tryz.prog 71 15 ce71 = some (rc71, ro71) := by kernel_rfl
/-! lifeline/token.letter -/

def rc72 : RC := (.seq (.run [za 2 (.const (.bool false))])
  (.seq (.run [zr 3 (.mv (zt 0)), zr 4 (.bin .geq (zt 3) (.const (.int .u8 97))), zr 5 (.mv (zt 4)), zg 6 5 true (.mv (zt 0)), zg 7 5 true (.bin .leq (zt 6) (.const (.int .u8 122))), zr 8 (.pick (zt 5) (zt 7) (.const (.bool false))), za 2 (zt 8)])
  .ret))
def ce72 : List (Nat × List Nat × List Nat) := []
def ro72 : List RO := [(.mv (zt 2))]
theorem ok72 : okFn Tryz.prog 72 9 ce72 = some (rc72, ro72) := by kernel_rfl
/-! lifeline/token.word -/
def rc73_0 : RC := (.block 1 (.run [zr 30 (.mv (zt 3)), zr 31 (.bin .add (zt 30) (zi 1)), za 3 (zt 31)]))
def rc73_1 : RC := (.seq (.seq (.run [zr 4 (.mv (zt 3)), zr 5 (.mv (zt 0)), zr 6 (.lens (zt 5)), zr 7 (.bin .lss (zt 4) (zt 6)), zr 8 (.mv (zt 7)), zg 9 8 true (.mv (zt 0)), zg 10 8 true (.mv (zt 3)), zg 11 8 true (.ixs (zt 9) (zt 10)), ⟨(some 12), (some (8, true)), (.c (.fn 72 [(zt 11)])), []⟩, zg 13 8 true (.mv (zt 12)), zg 14 13 false (.mv (zt 3)), zg 15 13 false (.bin .gtr (zt 14) (zi 0)), zg 16 13 false (.mv (zt 15)), zg 17 16 true (.mv (zt 0)), zg 18 16 true (.mv (zt 3)), zg 19 16 true (.ixs (zt 17) (zt 18)), ⟨(some 20), (some (16, true)), (.c (.fn 74 [(zt 19)])), []⟩, zg 21 16 true (.mv (zt 20)), zg 22 21 false (.mv (zt 0)), zg 23 21 false (.mv (zt 3)), zg 24 21 false (.ixs (zt 22) (zt 23)), zg 25 21 false (.bin .eql (zt 24) (.const (.int .u8 45))), zg 26 16 true (.pick (zt 21) (.const (.bool true)) (zt 25)), zg 27 13 false (.pick (zt 16) (zt 26) (.const (.bool false))), zg 28 8 true (.pick (zt 13) (.const (.bool true)) (zt 27)), zr 29 (.pick (zt 8) (zt 28) (.const (.bool false)))])
  (.cond (zt 29)
  .skip
  (.exit 0)))
  rc73_0)
def rc73_2 : RC := (.seq (.run [zr 32 (.mv (zt 3)), za 2 (zt 32)])
  .ret)
def rc73 : RC := (.seq (.run [za 2 (zi 0)])
  (.seq (.run [za 3 (zi 0)])
  (.seq (.block 0 (.loop rc73_1))
  rc73_2)))
def ce73 : List (Nat × List Nat × List Nat) := []
def ro73 : List RO := [(.mv (zt 2))]
theorem ok73 : okFn Tryz.prog 73 33 ce73 = some (rc73, ro73) := by kernel_rfl
/-! lifeline/token.digit -/

def rc74 : RC := (.seq (.run [za 2 (.const (.bool false))])
  (.seq (.run [zr 3 (.mv (zt 0)), zr 4 (.bin .geq (zt 3) (.const (.int .u8 48))), zr 5 (.mv (zt 4)), zg 6 5 true (.mv (zt 0)), zg 7 5 true (.bin .leq (zt 6) (.const (.int .u8 57))), zr 8 (.pick (zt 5) (zt 7) (.const (.bool false))), za 2 (zt 8)])
  .ret))
def ce74 : List (Nat × List Nat × List Nat) := []
def ro74 : List RO := [(.mv (zt 2))]
theorem ok74 : okFn Tryz.prog 74 9 ce74 = some (rc74, ro74) := by kernel_rfl
/-! lifeline/token.number -/
def rc75_0 : RC := (.block 1 (.run [zr 26 (.mv (zt 8)), zr 27 (.bin .add (zt 26) (zi 1)), za 8 (zt 27)]))
def rc75_1 : RC := (.seq (.seq (.run [zr 14 (.mv (zt 8)), zr 15 (.mv (zt 0)), zr 16 (.lens (zt 15)), zr 17 (.bin .lss (zt 14) (zt 16)), zr 18 (.mv (zt 17)), zg 19 18 true (.mv (zt 7)), zg 20 18 true (.mv (zt 0)), zg 21 18 true (.mv (zt 8)), zg 22 18 true (.ixs (zt 20) (zt 21)), ⟨(some 23), (some (18, true)), (.c (.fn 77 [(zt 19), (zt 22)])), []⟩, zg 24 18 true (.bin .geq (zt 23) (zi 0)), zr 25 (.pick (zt 18) (zt 24) (.const (.bool false)))])
  (.cond (zt 25)
  .skip
  (.exit 0)))
  rc75_0)
def rc75_2 : RC := (.seq (.run [zr 56 (.mv (zt 8)), zr 57 (.mv (zt 9)), zr 58 (.cvi .i64 (zt 57)), za 2 (zt 56), za 3 (zt 58), za 4 (.const (.bool true))])
  .ret)
def rc75_3 : RC := (.seq (.run [zr 29 (.mv (zt 0)), zr 30 (.mv (zt 6)), zr 31 (.mv (zt 8)), zr 32 (.sls (zt 29) (some (zt 30)) (some (zt 31))), zr 33 (.mv (zt 5)), zc 34 90 [(zt 32), (zt 33), (zi 32)], zr 28 (.mv (zt 34)), zr 35 (.ext 0 (zt 28)), zr 36 (.ext 1 (zt 28)), za 9 (zt 35), za 10 (zt 36)])
  (.seq (.seq (.run [zr 37 (.mv (zt 10)), zr 38 (.eq true (.iface []) (zt 37) (.const .nilIface)), zr 39 (.mv (zt 38)), zg 40 39 false (.mv (zt 9)), zg 41 39 false (.mv (zt 5)), zg 43 39 false (.mv (zt 0)), zg 44 39 false (.mv (zt 6)), zg 45 39 false (.mv (zt 8)), zg 46 39 false (.sls (zt 43) (some (zt 44)) (some (zt 45))), ⟨(some 42), (some (39, false)), (.c (.fn 91 [(zt 40), (zt 41)])), []⟩, zg 47 39 false (.bin .neq (zt 42) (zt 46)), zr 48 (.pick (zt 39) (.const (.bool true)) (zt 47)), zr 49 (.mv (zt 48)), zg 50 49 false (.mv (zt 0)), zg 51 49 false (.mv (zt 8)), zg 52 49 false (.sls (zt 50) (some (zt 51)) none), ⟨(some 53), (some (49, false)), (.c (.fn 73 [(zt 52)])), []⟩, zg 54 49 false (.bin .gtr (zt 53) (zi 0)), zr 55 (.pick (zt 49) (.const (.bool true)) (zt 54))])
  (.cond (zt 55)
  (.seq (.run [za 2 (zi 0), za 3 (zi 0), za 4 (.const (.bool false))])
  .ret)
  .skip))
  rc75_2))
def rc75_4 : RC := (.seq (.run [zr 13 (.mv (zt 6)), za 8 (zt 13)])
  (.seq (.block 0 (.loop rc75_1))
  rc75_3))
def rc75 : RC := (.seq (.run [za 2 (zi 0), za 3 (zi 0), za 4 (.const (.bool false))])
  (.seq (.run [za 5 (zi 10), za 6 (zi 0), za 7 (.const (.string ⟨#[48, 49, 50, 51, 52, 53, 54, 55, 56, 57]⟩))])
  (.seq (.seq (.run [zr 11 (.mv (zt 0)), zc 12 89 [(zt 11), (.const (.string ⟨#[48, 120]⟩))]])
  (.cond (zt 12)
  (.run [za 5 (zi 16), za 6 (zi 2), za 7 (.const (.string ⟨#[48, 49, 50, 51, 52, 53, 54, 55, 56, 57, 97, 98, 99, 100, 101, 102]⟩))])
  .skip))
  rc75_4)))
def ce75 : List (Nat × List Nat × List Nat) := [(8, [0, 1, 2, 3, 4, 6, 7, 8, 9, 5, 10, 11, 12, 13, 14, 15, 16, 17, 18], [0, 1, 3, 7, 7, 31, 7, 7, 7, 455, 1023, 2047, 4095, 8191, 8191, 32767, 65535, 131071, 262143])]
def ro75 : List RO := [(.mv (zt 2)), (.mv (zt 3)), (.mv (zt 4))]
theorem ok75 : okFn Tryz.prog 75 59 ce75 = some (rc75, ro75) := by kernel_rfl
/-! lifeline/token.quoted -/
def rc76_0 : RC := (.seq (.run [zr 48 (.mv (zt 0)), zr 49 (.mv (zt 6)), zr 50 (.ixs (zt 48) (zt 49))])
  (.block 3 (.seq (.run [zr 56 (.bin .eql (zt 50) (.const (.int .u8 114))), za 55 (zt 56)])
  (.cond (zt 55)
  (.run [zc 57 62 [(zt 5), (.const (.int .u8 13))]])
  (.seq (.run [zr 59 (.bin .eql (zt 50) (.const (.int .u8 110))), za 58 (zt 59)])
  (.cond (zt 58)
  (.run [zc 60 62 [(zt 5), (.const (.int .u8 10))]])
  (.run [zr 51 (.mv (zt 0)), zr 52 (.mv (zt 6)), zr 53 (.ixs (zt 51) (zt 52)), zc 54 62 [(zt 5), (zt 53)]])))))))
def rc76_1 : RC := (.seq (.run [zr 35 (.mv (zt 6)), zr 36 (.bin .add (zt 35) (zi 1)), za 6 (zt 36)])
  (.seq (.seq (.run [zr 37 (.mv (zt 6)), zr 38 (.mv (zt 0)), zr 39 (.lens (zt 38)), zr 40 (.bin .eql (zt 37) (zt 39)), zr 41 (.mv (zt 40)), zg 42 41 false (.mv (zt 0)), zg 43 41 false (.mv (zt 6)), zg 44 41 false (.ixs (zt 42) (zt 43)), ⟨(some 45), (some (41, false)), (.c (.fn 77 [(.const (.string ⟨#[92, 34, 114, 110]⟩)), (zt 44)])), []⟩, zg 46 41 false (.bin .lss (zt 45) (zi 0)), zr 47 (.pick (zt 41) (.const (.bool true)) (zt 46))])
  (.cond (zt 47)
  (.seq (.run [za 2 (zi 0), za 3 (.const (.string ⟨#[]⟩)), za 4 (.const (.bool false))])
  .ret)
  .skip))
  rc76_0))
def rc76_2 : RC := (.seq (.block 1 (.seq (.run [zr 14 (.mv (zt 0)), zr 15 (.mv (zt 6)), zr 16 (.ixs (zt 14) (zt 15)), za 7 (zt 16)])
  (.seq (.block 2 (.seq (.run [zr 18 (.mv (zt 7)), zr 19 (.bin .eql (zt 18) (.const (.int .u8 34))), za 17 (zt 19)])
  (.cond (zt 17)
  (.seq (.run [zr 20 (.mv (zt 6)), zr 21 (.bin .add (zt 20) (zi 1)), zc 22 40 [(zt 5)], za 2 (zt 21), za 3 (zt 22), za 4 (.const (.bool true))])
  .ret)
  (.seq (.run [zr 24 (.mv (zt 7)), zr 25 (.bin .lss (zt 24) (.const (.int .u8 32))), zr 26 (.mv (zt 25)), zg 27 26 false (.mv (zt 7)), zg 28 26 false (.bin .gtr (zt 27) (.const (.int .u8 126))), zr 29 (.pick (zt 26) (.const (.bool true)) (zt 28)), za 23 (zt 29)])
  (.cond (zt 23)
  (.seq (.run [za 2 (zi 0), za 3 (.const (.string ⟨#[]⟩)), za 4 (.const (.bool false))])
  .ret)
  (.seq (.run [zr 31 (.mv (zt 7)), zr 32 (.bin .neq (zt 31) (.const (.int .u8 92))), za 30 (zt 32)])
  (.cond (zt 30)
  (.seq (.run [zr 33 (.mv (zt 7)), zc 34 62 [(zt 5), (zt 33)]])
  (.exit 1))
  .skip)))))))
  rc76_1)))
  (.run [zr 12 (.mv (zt 6)), zr 13 (.bin .add (zt 12) (zi 1)), za 6 (zt 13)]))
def rc76_3 : RC := (.seq (.seq (.run [zr 8 (.mv (zt 6)), zr 9 (.mv (zt 0)), zr 10 (.lens (zt 9)), zr 11 (.bin .lss (zt 8) (zt 10))])
  (.cond (zt 11)
  .skip
  (.exit 0)))
  rc76_2)
def rc76_4 : RC := (.seq (.run [za 2 (zi 0), za 3 (.const (.string ⟨#[]⟩)), za 4 (.const (.bool false))])
  .ret)
def rc76 : RC := (.seq (.run [za 2 (zi 0), za 3 (.const (.string ⟨#[]⟩)), za 4 (.const (.bool false))])
  (.seq (.run [zf 5 (.al [(.pointer none), (.slice none 0 0)] 96)])
  (.seq (.seq (.run [za 6 (zi 1)])
  (.block 0 (.loop rc76_3)))
  rc76_4)))
def ce76 : List (Nat × List Nat × List Nat) := []
def ro76 : List RO := [(.mv (zt 2)), (.mv (zt 3)), (.mv (zt 4))]
theorem ok76 : okFn Tryz.prog 76 61 ce76 = some (rc76, ro76) := by kernel_rfl
/-! strings.IndexByte -/

def rc77 : RC := (.seq (.run [za 4 (zi 0)])
  (.seq (.run [zr 5 (.mv (zt 0)), zr 6 (.mv (zt 1)), zc 7 92 [(zt 5), (zt 6)], za 4 (zt 7)])
  .ret))
def ce77 : List (Nat × List Nat × List Nat) := []
def ro77 : List RO := [(.mv (zt 4))]
theorem ok77 : okFn Tryz.prog 77 8 ce77 = some (rc77, ro77) := by kernel_rfl
/-! (*strings.Builder).Grow -/
def rc82_0 : RC := (.seq (.run [zr 9 (.mv (zt 0)), zr 10 (.nck (zt 9)), zr 11 (.fa 1 (zt 10)), zr 12 (.ld (zt 11)), zr 13 (.capn (zt 12)), zr 14 (.mv (zt 0)), zr 15 (.nck (zt 14)), zr 16 (.fa 1 (zt 15)), zr 17 (.ld (zt 16)), zr 18 (.lenl (zt 17)), zr 19 (.bin .sub (zt 13) (zt 18)), zr 20 (.mv (zt 1)), zr 21 (.bin .lss (zt 19) (zt 20))])
  (.cond (zt 21)
  (.run [zr 22 (.mv (zt 0)), zr 23 (.mv (zt 1)), zc 24 93 [(zt 22), (zt 23)]])
  .skip))
def rc82 : RC := (.seq (.run [zr 4 (.mv (zt 0)), zc 5 59 [(zt 4)]])
  (.seq (.seq (.run [zr 6 (.mv (zt 1)), zr 7 (.bin .lss (zt 6) (zi 0))])
  (.cond (zt 7)
  (.run [zr 8 (.mki 9 (.const (.string ⟨#[115, 116, 114, 105, 110, 103, 115, 46, 66, 117, 105, 108, 100, 101, 114, 46, 71, 114, 111, 119, 58, 32, 110, 101, 103, 97, 116, 105, 118, 101, 32, 99, 111, 117, 110, 116]⟩))), ⟨none, none, .bad, []⟩])
  .skip))
  rc82_0))
def ce82 : List (Nat × List Nat × List Nat) := [(3, [0, 1, 2, 3, 4, 5, 6, 7, 8, 9, 10, 11, 12], [0, 1, 3, 7, 15, 0, 32, 96, 224, 480, 1023, 0, 4095])]
def ro82 : List RO := []
theorem ok82 : okFn Tryz.prog 82 25 ce82 = some (rc82, ro82) := by kernel_rfl
/-! internal/strconv.Itoa -/

def rc83 : RC := (.seq (.run [za 2 (.const (.string ⟨#[]⟩))])
  (.seq (.run [zr 3 (.mv (zt 0)), zc 4 94 [(zt 3), (zi 10)], za 2 (zt 4)])
  .ret))
def ce83 : List (Nat × List Nat × List Nat) := []
def ro83 : List RO := [(.mv (zt 2))]
theorem ok83 : okFn Tryz.prog 83 5 ce83 = some (rc83, ro83) := by kernel_rfl
/-! (lifeline/regex.Set).Has -/

def rc84 : RC := (.seq (.run [zf 2 (.bx 73 (zt 0)), za 4 (.const (.bool false))])
  (.seq (.run [zr 5 (.mv (zt 1)), zr 6 (.bin .quo (zt 5) (.const (.int .u8 64))), zr 7 (.iaa 4 1 (zt 2) (zt 6)), zr 8 (.ld (zt 7)), zr 9 (.mv (zt 1)), zr 10 (.bin .rem (zt 9) (.const (.int .u8 64))), zr 11 (.bin .shr (zt 8) (zt 10)), zr 12 (.bin .and (zt 11) (.const (.int .u64 1))), zr 13 (.bin .eql (zt 12) (.const (.int .u64 1))), za 4 (zt 13)])
  .ret))
def ce84 : List (Nat × List Nat × List Nat) := []
def ro84 : List RO := [(.mv (zt 4))]
theorem ok84 : okFn Tryz.prog 84 14 ce84 = some (rc84, ro84) := by kernel_rfl
/-! (*lifeline/regex.reader).either -/
def rc85_0 : RC := (.block 1 (.seq (.run [zr 21 (.mv (zt 0)), zr 22 (.nck (zt 21)), zr 23 (.fa 1 (zt 22)), zr 24 (.ld (zt 23)), zr 25 (.bin .add (zt 24) (zi 1)), zr 26 (.nck (zt 21)), zr 27 (.fa 1 (zt 26)), ze (.st 1 (zt 27) (zt 25))])
  (.seq (.run [zf 8 (.al [(.int .i64 0), (.int .u64 0), (.int .u64 0), (.int .u64 0), (.int .u64 0), (.slice none 0 0)] 76)])
  (.seq (.run [zr 29 (.mv (zt 0)), zr 30 (.mv (zt 1)), zc 31 95 [(zt 29), (zt 30)], zr 28 (.mv (zt 31)), zr 32 (.ext 0 (zt 28)), zr 33 (.ext 1 (zt 28)), ze (.st 6 (zt 8) (zt 32)), za 7 (zt 33)])
  (.run [zr 34 (.ldn 6 (zt 6)), zr 35 (.ldn 6 (zt 8)), zf 36 (.bsl 76 6 2 [(.int .i64 0), (.int .u64 0), (.int .u64 0), (.int .u64 0), (.int .u64 0), (.slice none 0 0), (.int .i64 0), (.int .u64 0), (.int .u64 0), (.int .u64 0), (.int .u64 0), (.slice none 0 0)] [(0, 6, (zt 34)), (6, 6, (zt 35))]), zr 37 (.bld [(.int .i64 0), (.int .u64 0), (.int .u64 0), (.int .u64 0), (.int .u64 0), (.slice none 0 0)] [(0, 1, (zi 3)), (5, 1, (zt 36))]), ze (.st 6 (zt 6) (zt 37))])))))
def rc85_1 : RC := (.seq (.seq (.run [zr 15 (.mv (zt 7)), zr 16 (.eq false (.iface []) (zt 15) (.const .nilIface)), zr 17 (.mv (zt 16)), zg 18 17 true (.mv (zt 0)), ⟨(some 19), (some (17, true)), (.c (.fn 96 [(zt 18), (.const (.int .u8 124))])), []⟩, zr 20 (.pick (zt 17) (zt 19) (.const (.bool false)))])
  (.cond (zt 20)
  .skip
  (.exit 0)))
  rc85_0)
def rc85_2 : RC := (.seq (.run [zr 42 (.ldn 6 (zt 6)), ze (.st 6 (zt 4) (zt 42)), za 5 (.const .nilIface)])
  .ret)
def rc85_3 : RC := (.seq (.seq (.run [zr 38 (.mv (zt 7)), zr 39 (.eq true (.iface []) (zt 38) (.const .nilIface))])
  (.cond (zt 39)
  (.seq (.run [zr 40 (.bld [(.int .i64 0), (.int .u64 0), (.int .u64 0), (.int .u64 0), (.int .u64 0), (.slice none 0 0)] []), zr 41 (.mv (zt 7)), ze (.st 6 (zt 4) (zt 40)), za 5 (zt 41)])
  .ret)
  .skip))
  rc85_2)
def rc85 : RC := (.seq (.run [zf 4 (.al [(.int .i64 0), (.int .u64 0), (.int .u64 0), (.int .u64 0), (.int .u64 0), (.slice none 0 0)] 76), za 5 (.const .nilIface)])
  (.seq (.run [zr 10 (.mv (zt 0)), zr 11 (.mv (zt 1)), zc 12 95 [(zt 10), (zt 11)], zr 9 (.mv (zt 12)), zr 13 (.ext 0 (zt 9)), zr 14 (.ext 1 (zt 9)), zf 6 (.al [(.int .i64 0), (.int .u64 0), (.int .u64 0), (.int .u64 0), (.int .u64 0), (.slice none 0 0)] 76), ze (.st 6 (zt 6) (zt 13)), za 7 (zt 14)])
  (.seq (.block 0 (.loop rc85_1))
  rc85_3)))
def ce85 : List (Nat × List Nat × List Nat) := []
def ro85 : List RO := [(.ldn 6 (zt 4)), (.mv (zt 5))]
theorem ok85 : okFn Tryz.prog 85 43 ce85 = some (rc85, ro85) := by kernel_rfl
/-! (*lifeline/regex.reader).more -/

def rc86 : RC := (.seq (.run [za 2 (.const (.bool false))])
  (.seq (.run [zr 3 (.mv (zt 0)), zr 4 (.nck (zt 3)), zr 5 (.fa 1 (zt 4)), zr 6 (.ld (zt 5)), zr 7 (.mv (zt 0)), zr 8 (.nck (zt 7)), zr 9 (.fa 0 (zt 8)), zr 10 (.ld (zt 9)), zr 11 (.lens (zt 10)), zr 12 (.bin .lss (zt 6) (zt 11)), za 2 (zt 12)])
  .ret))
def ce86 : List (Nat × List Nat × List Nat) := [(1, [0, 1, 2, 3, 4, 5, 6, 7, 8, 9, 10], [0, 1, 3, 7, 0, 16, 48, 112, 240, 511, 1023])]
def ro86 : List RO := [(.mv (zt 2))]
theorem ok86 : okFn Tryz.prog 86 13 ce86 = some (rc86, ro86) := by kernel_rfl
/-! (*lifeline/regex.reader).bad -/

def rc87 : RC := (.seq (.run [za 2 (.const .nilIface)])
  (.seq (.run [zr 3 (.mv (zt 0)), zr 4 (.nck (zt 3)), zr 5 (.fa 1 (zt 4)), zr 6 (.ld (zt 5)), zc 7 47 [(zi 8), (zt 6)], za 2 (zt 7)])
  .ret))
def ce87 : List (Nat × List Nat × List Nat) := []
def ro87 : List RO := [(.mv (zt 2))]
theorem ok87 : okFn Tryz.prog 87 8 ce87 = some (rc87, ro87) := by kernel_rfl
/-! (*lifeline/nfa.maker).make -/
def rc88_0 : RC := (.run [⟨(some 6), none, (.e (.al [(.map none), (.map none), (.bool false)] 186)), [(42, none, .ld (zt 41)), (44, none, .ldn 6 (zt 43)), (48, none, .ld (zt 47)), (50, none, .ldn 6 (zt 49))]⟩, ⟨(some 7), none, (.e (.al [(.map none), (.map none), (.bool false)] 186)), [(42, none, .ld (zt 41)), (44, none, .ldn 6 (zt 43)), (48, none, .ld (zt 47)), (50, none, .ldn 6 (zt 49))]⟩, ze (.st 3 (zt 6) (zt 45)), ze (.st 3 (zt 7) (zt 51))])
def rc88_1 : RC := (.run [⟨(some 7), none, (.e (.al [(.map none), (.map none), (.bool false)] 186)), [(42, none, .ld (zt 41)), (44, none, .ldn 6 (zt 43)), (48, none, .ld (zt 47)), (50, none, .ldn 6 (zt 49))]⟩, ⟨(some 6), none, (.e (.al [(.map none), (.map none), (.bool false)] 186)), [(42, none, .ld (zt 41)), (44, none, .ldn 6 (zt 43)), (48, none, .ld (zt 47)), (50, none, .ldn 6 (zt 49))]⟩, ze (.st 3 (zt 6) (zt 45)), ze (.st 3 (zt 7) (zt 51))])
def rc88_2 : RC := (.fork [zc 51 88 [(zt 46), (zt 50)]]
  rc88_0
  rc88_1)
def rc88_3 : RC := (.run [zc 51 88 [(zt 46), (zt 50)], ⟨(some 7), none, (.e (.al [(.map none), (.map none), (.bool false)] 186)), [(42, none, .ld (zt 41)), (44, none, .ldn 6 (zt 43)), (48, none, .ld (zt 47)), (50, none, .ldn 6 (zt 49))]⟩, ze (.st 3 (zt 6) (zt 45)), ze (.st 3 (zt 7) (zt 51))])
def rc88_4 : RC := (.run [⟨(some 7), none, (.e (.al [(.map none), (.map none), (.bool false)] 186)), [(42, none, .ld (zt 41)), (44, none, .ldn 6 (zt 43)), (48, none, .ld (zt 47)), (50, none, .ldn 6 (zt 49))]⟩, zc 51 88 [(zt 46), (zt 50)], ze (.st 3 (zt 6) (zt 45)), ze (.st 3 (zt 7) (zt 51))])
def rc88_5 : RC := (.fork [⟨(some 6), none, (.e (.al [(.map none), (.map none), (.bool false)] 186)), [(42, none, .ld (zt 41)), (44, none, .ldn 6 (zt 43)), (48, none, .ld (zt 47)), (50, none, .ldn 6 (zt 49))]⟩]
  rc88_3
  rc88_4)
def rc88_6 : RC := (.run [zc 51 88 [(zt 46), (zt 50)], ⟨(some 6), none, (.e (.al [(.map none), (.map none), (.bool false)] 186)), [(42, none, .ld (zt 41)), (44, none, .ldn 6 (zt 43)), (48, none, .ld (zt 47)), (50, none, .ldn 6 (zt 49))]⟩, ze (.st 3 (zt 6) (zt 45)), ze (.st 3 (zt 7) (zt 51))])
def rc88_7 : RC := (.run [⟨(some 6), none, (.e (.al [(.map none), (.map none), (.bool false)] 186)), [(42, none, .ld (zt 41)), (44, none, .ldn 6 (zt 43)), (48, none, .ld (zt 47)), (50, none, .ldn 6 (zt 49))]⟩, zc 51 88 [(zt 46), (zt 50)], ze (.st 3 (zt 6) (zt 45)), ze (.st 3 (zt 7) (zt 51))])
def rc88_8 : RC := (.fork [⟨(some 7), none, (.e (.al [(.map none), (.map none), (.bool false)] 186)), [(42, none, .ld (zt 41)), (44, none, .ldn 6 (zt 43)), (48, none, .ld (zt 47)), (50, none, .ldn 6 (zt 49))]⟩]
  rc88_6
  rc88_7)
def rc88_9 : RC := (.fork []
  rc88_5
  rc88_8)
def rc88_10 : RC := (.fork [⟨(some 45), none, (.c (.fn 88 [(zt 40), (zt 44)])), [(48, none, .ld (zt 47)), (50, none, .ldn 6 (zt 49))]⟩]
  rc88_2
  rc88_9)
def rc88_11 : RC := (.fork [⟨(some 45), none, (.c (.fn 88 [(zt 40), (zt 44)])), [(48, none, .ld (zt 47)), (50, none, .ldn 6 (zt 49))]⟩]
  rc88_3
  rc88_4)
def rc88_12 : RC := (.run [⟨(some 7), none, (.e (.al [(.map none), (.map none), (.bool false)] 186)), [(42, none, .ld (zt 41)), (44, none, .ldn 6 (zt 43)), (48, none, .ld (zt 47)), (50, none, .ldn 6 (zt 49))]⟩, ⟨(some 45), none, (.c (.fn 88 [(zt 40), (zt 44)])), [(48, none, .ld (zt 47)), (50, none, .ldn 6 (zt 49))]⟩, zc 51 88 [(zt 46), (zt 50)], ze (.st 3 (zt 6) (zt 45)), ze (.st 3 (zt 7) (zt 51))])
def rc88_13 : RC := (.fork [⟨(some 6), none, (.e (.al [(.map none), (.map none), (.bool false)] 186)), [(42, none, .ld (zt 41)), (44, none, .ldn 6 (zt 43)), (48, none, .ld (zt 47)), (50, none, .ldn 6 (zt 49))]⟩]
  rc88_11
  rc88_12)
def rc88_14 : RC := (.fork [⟨(some 45), none, (.c (.fn 88 [(zt 40), (zt 44)])), [(48, none, .ld (zt 47)), (50, none, .ldn 6 (zt 49))]⟩]
  rc88_6
  rc88_7)
def rc88_15 : RC := (.run [⟨(some 6), none, (.e (.al [(.map none), (.map none), (.bool false)] 186)), [(42, none, .ld (zt 41)), (44, none, .ldn 6 (zt 43)), (48, none, .ld (zt 47)), (50, none, .ldn 6 (zt 49))]⟩, ⟨(some 45), none, (.c (.fn 88 [(zt 40), (zt 44)])), [(48, none, .ld (zt 47)), (50, none, .ldn 6 (zt 49))]⟩, zc 51 88 [(zt 46), (zt 50)], ze (.st 3 (zt 6) (zt 45)), ze (.st 3 (zt 7) (zt 51))])
def rc88_16 : RC := (.fork [⟨(some 7), none, (.e (.al [(.map none), (.map none), (.bool false)] 186)), [(42, none, .ld (zt 41)), (44, none, .ldn 6 (zt 43)), (48, none, .ld (zt 47)), (50, none, .ldn 6 (zt 49))]⟩]
  rc88_14
  rc88_15)
def rc88_17 : RC := (.fork []
  rc88_13
  rc88_16)
def rc88_18 : RC := (.seq (.run [zr 52 (.mv (zt 0)), zr 53 (.fa 1 (zt 6)), zr 54 (.ld (zt 53)), zr 55 (.fa 0 (zt 7)), zr 56 (.ld (zt 55)), zc 57 97 [(zt 52), (zt 54), (zt 56)]])
  (.seq (.run [zr 58 (.fa 0 (zt 6)), zr 59 (.ld (zt 58)), zr 60 (.fa 2 (zt 6)), zr 61 (.ld (zt 60)), zr 62 (.fa 0 (zt 7)), zr 63 (.ld (zt 62)), zr 66 (.fa 1 (zt 7)), zr 67 (.ld (zt 66)), zr 68 (.fa 2 (zt 7)), zr 69 (.ld (zt 68)), zr 70 (.fa 1 (zt 6)), zr 71 (.ld (zt 70)), zr 74 (.fa 2 (zt 6)), zr 75 (.ld (zt 74)), ⟨(some 64), none, (.c (.fn 99 [(zt 61), (zt 63)])), [(59, none, .ld (zt 58)), (67, none, .ld (zt 66)), (69, none, .ld (zt 68)), (71, none, .ld (zt 70)), (75, none, .ld (zt 74))]⟩, ⟨(some 65), none, (.c (.fn 98 [(zt 59), (zt 64)])), [(67, none, .ld (zt 66)), (69, none, .ld (zt 68)), (71, none, .ld (zt 70)), (75, none, .ld (zt 74))]⟩, ⟨(some 72), none, (.c (.fn 99 [(zt 69), (zt 71)])), [(67, none, .ld (zt 66)), (75, none, .ld (zt 74))]⟩, ⟨(some 73), none, (.c (.fn 98 [(zt 67), (zt 72)])), [(75, none, .ld (zt 74))]⟩, zr 76 (.mv (zt 75)), zg 77 76 true (.fa 2 (zt 7)), zg 78 76 true (.ld (zt 77)), zr 79 (.pick (zt 76) (zt 78) (.const (.bool false))), zr 80 (.bld [(.map none), (.map none), (.bool false)] [(0, 1, (zt 65)), (1, 1, (zt 73)), (2, 1, (zt 79))]), ze (.st 3 (zt 4) (zt 80))])
  .ret))
def rc88_19 : RC := (.run [⟨(some 8), none, (.e (.al [(.map none), (.map none), (.bool false)] 186)), [(85, none, .ld (zt 84)), (87, none, .ldn 6 (zt 86)), (91, none, .ld (zt 90)), (93, none, .ldn 6 (zt 92))]⟩, ⟨(some 9), none, (.e (.al [(.map none), (.map none), (.bool false)] 186)), [(85, none, .ld (zt 84)), (87, none, .ldn 6 (zt 86)), (91, none, .ld (zt 90)), (93, none, .ldn 6 (zt 92))]⟩, ze (.st 3 (zt 8) (zt 88)), ze (.st 3 (zt 9) (zt 94))])
def rc88_20 : RC := (.run [⟨(some 9), none, (.e (.al [(.map none), (.map none), (.bool false)] 186)), [(85, none, .ld (zt 84)), (87, none, .ldn 6 (zt 86)), (91, none, .ld (zt 90)), (93, none, .ldn 6 (zt 92))]⟩, ⟨(some 8), none, (.e (.al [(.map none), (.map none), (.bool false)] 186)), [(85, none, .ld (zt 84)), (87, none, .ldn 6 (zt 86)), (91, none, .ld (zt 90)), (93, none, .ldn 6 (zt 92))]⟩, ze (.st 3 (zt 8) (zt 88)), ze (.st 3 (zt 9) (zt 94))])
def rc88_21 : RC := (.fork [zc 94 88 [(zt 89), (zt 93)]]
  rc88_19
  rc88_20)
def rc88_22 : RC := (.run [zc 94 88 [(zt 89), (zt 93)], ⟨(some 9), none, (.e (.al [(.map none), (.map none), (.bool false)] 186)), [(85, none, .ld (zt 84)), (87, none, .ldn 6 (zt 86)), (91, none, .ld (zt 90)), (93, none, .ldn 6 (zt 92))]⟩, ze (.st 3 (zt 8) (zt 88)), ze (.st 3 (zt 9) (zt 94))])
def rc88_23 : RC := (.run [⟨(some 9), none, (.e (.al [(.map none), (.map none), (.bool false)] 186)), [(85, none, .ld (zt 84)), (87, none, .ldn 6 (zt 86)), (91, none, .ld (zt 90)), (93, none, .ldn 6 (zt 92))]⟩, zc 94 88 [(zt 89), (zt 93)], ze (.st 3 (zt 8) (zt 88)), ze (.st 3 (zt 9) (zt 94))])
def rc88_24 : RC := (.fork [⟨(some 8), none, (.e (.al [(.map none), (.map none), (.bool false)] 186)), [(85, none, .ld (zt 84)), (87, none, .ldn 6 (zt 86)), (91, none, .ld (zt 90)), (93, none, .ldn 6 (zt 92))]⟩]
  rc88_22
  rc88_23)
def rc88_25 : RC := (.run [zc 94 88 [(zt 89), (zt 93)], ⟨(some 8), none, (.e (.al [(.map none), (.map none), (.bool false)] 186)), [(85, none, .ld (zt 84)), (87, none, .ldn 6 (zt 86)), (91, none, .ld (zt 90)), (93, none, .ldn 6 (zt 92))]⟩, ze (.st 3 (zt 8) (zt 88)), ze (.st 3 (zt 9) (zt 94))])
def rc88_26 : RC := (.run [⟨(some 8), none, (.e (.al [(.map none), (.map none), (.bool false)] 186)), [(85, none, .ld (zt 84)), (87, none, .ldn 6 (zt 86)), (91, none, .ld (zt 90)), (93, none, .ldn 6 (zt 92))]⟩, zc 94 88 [(zt 89), (zt 93)], ze (.st 3 (zt 8) (zt 88)), ze (.st 3 (zt 9) (zt 94))])
def rc88_27 : RC := (.fork [⟨(some 9), none, (.e (.al [(.map none), (.map none), (.bool false)] 186)), [(85, none, .ld (zt 84)), (87, none, .ldn 6 (zt 86)), (91, none, .ld (zt 90)), (93, none, .ldn 6 (zt 92))]⟩]
  rc88_25
  rc88_26)
def rc88_28 : RC := (.fork []
  rc88_24
  rc88_27)
def rc88_29 : RC := (.fork [⟨(some 88), none, (.c (.fn 88 [(zt 83), (zt 87)])), [(91, none, .ld (zt 90)), (93, none, .ldn 6 (zt 92))]⟩]
  rc88_21
  rc88_28)
def rc88_30 : RC := (.fork [⟨(some 88), none, (.c (.fn 88 [(zt 83), (zt 87)])), [(91, none, .ld (zt 90)), (93, none, .ldn 6 (zt 92))]⟩]
  rc88_22
  rc88_23)
def rc88_31 : RC := (.run [⟨(some 9), none, (.e (.al [(.map none), (.map none), (.bool false)] 186)), [(85, none, .ld (zt 84)), (87, none, .ldn 6 (zt 86)), (91, none, .ld (zt 90)), (93, none, .ldn 6 (zt 92))]⟩, ⟨(some 88), none, (.c (.fn 88 [(zt 83), (zt 87)])), [(91, none, .ld (zt 90)), (93, none, .ldn 6 (zt 92))]⟩, zc 94 88 [(zt 89), (zt 93)], ze (.st 3 (zt 8) (zt 88)), ze (.st 3 (zt 9) (zt 94))])
def rc88_32 : RC := (.fork [⟨(some 8), none, (.e (.al [(.map none), (.map none), (.bool false)] 186)), [(85, none, .ld (zt 84)), (87, none, .ldn 6 (zt 86)), (91, none, .ld (zt 90)), (93, none, .ldn 6 (zt 92))]⟩]
  rc88_30
  rc88_31)
def rc88_33 : RC := (.fork [⟨(some 88), none, (.c (.fn 88 [(zt 83), (zt 87)])), [(91, none, .ld (zt 90)), (93, none, .ldn 6 (zt 92))]⟩]
  rc88_25
  rc88_26)
def rc88_34 : RC := (.run [⟨(some 8), none, (.e (.al [(.map none), (.map none), (.bool false)] 186)), [(85, none, .ld (zt 84)), (87, none, .ldn 6 (zt 86)), (91, none, .ld (zt 90)), (93, none, .ldn 6 (zt 92))]⟩, ⟨(some 88), none, (.c (.fn 88 [(zt 83), (zt 87)])), [(91, none, .ld (zt 90)), (93, none, .ldn 6 (zt 92))]⟩, zc 94 88 [(zt 89), (zt 93)], ze (.st 3 (zt 8) (zt 88)), ze (.st 3 (zt 9) (zt 94))])
def rc88_35 : RC := (.fork [⟨(some 9), none, (.e (.al [(.map none), (.map none), (.bool false)] 186)), [(85, none, .ld (zt 84)), (87, none, .ldn 6 (zt 86)), (91, none, .ld (zt 90)), (93, none, .ldn 6 (zt 92))]⟩]
  rc88_33
  rc88_34)
def rc88_36 : RC := (.fork []
  rc88_32
  rc88_35)
def rc88_37 : RC := (.seq (.run [zr 95 (.fa 0 (zt 8)), zr 96 (.ld (zt 95)), zr 97 (.fa 0 (zt 9)), zr 98 (.ld (zt 97)), zr 100 (.fa 1 (zt 8)), zr 101 (.ld (zt 100)), zr 102 (.fa 1 (zt 9)), zr 103 (.ld (zt 102)), zr 105 (.fa 2 (zt 8)), zr 106 (.ld (zt 105)), ⟨(some 99), none, (.c (.fn 98 [(zt 96), (zt 98)])), [(101, none, .ld (zt 100)), (103, none, .ld (zt 102)), (106, none, .ld (zt 105))]⟩, ⟨(some 104), none, (.c (.fn 98 [(zt 101), (zt 103)])), [(106, none, .ld (zt 105))]⟩, zr 107 (.mv (zt 106)), zg 108 107 false (.fa 2 (zt 9)), zg 109 107 false (.ld (zt 108)), zr 110 (.pick (zt 107) (.const (.bool true)) (zt 109)), zr 111 (.bld [(.map none), (.map none), (.bool false)] [(0, 1, (zt 99)), (1, 1, (zt 104)), (2, 1, (zt 110))]), ze (.st 3 (zt 4) (zt 111))])
  .ret)
def rc88_38 : RC := (.seq (.run [zr 131 (.bld [(.map none), (.map none), (.bool false)] [(2, 1, (.const (.bool true)))]), ze (.st 3 (zt 4) (zt 131))])
  .ret)
def rc88 : RC := (.seq (.run [zf 3 (.bx 76 (zt 1)), zf 4 (.al [(.map none), (.map none), (.bool false)] 186)])
  (.seq (.seq (.run [zr 11 (.fa 0 (zt 3)), zr 12 (.ld (zt 11))])
  (.block 0 (.seq (.run [zr 14 (.bin .eql (zt 12) (zi 1)), za 13 (zt 14)])
  (.cond (zt 13)
  (.seq (.run [zr 15 (.mv (zt 0)), zr 16 (.nck (zt 15)), zr 17 (.fa 0 (zt 16)), zr 18 (.ld (zt 17)), zr 19 (.lenl (zt 18)), za 5 (zt 19)])
  (.seq (.run [zr 20 (.mv (zt 0)), zr 21 (.mv (zt 0)), zr 22 (.nck (zt 21)), zr 23 (.fa 0 (zt 22)), zr 24 (.ld (zt 23)), zr 25 (.fa 1 (zt 3)), zr 26 (.ldn 4 (zt 25)), ⟨(some 27), none, (.e (.bsl 73 4 1 [(.int .u64 0), (.int .u64 0), (.int .u64 0), (.int .u64 0)] [(0, 4, (zt 26))])), [(24, none, .ld (zt 23))]⟩, zf 28 (.app 73 4 32 (zt 24) (zt 27)), zr 29 (.nck (zt 20)), zr 30 (.fa 0 (zt 29)), ze (.st 1 (zt 30) (zt 28))])
  (.seq (.run [zf 31 (.mkm), zr 32 (.mv (zt 5)), ze (.mup 0 (zt 31) (zt 32) (.const (.bool true))), zr 33 (.mv (zt 31)), zf 34 (.mkm), zr 35 (.mv (zt 5)), ze (.mup 0 (zt 34) (zt 35) (.const (.bool true))), zr 36 (.mv (zt 34)), zr 37 (.bld [(.map none), (.map none), (.bool false)] [(0, 1, (zt 33)), (1, 1, (zt 36)), (2, 1, (.const (.bool false)))]), ze (.st 3 (zt 4) (zt 37))])
  .ret)))
  (.seq (.run [zr 39 (.bin .eql (zt 12) (zi 2)), za 38 (zt 39)])
  (.cond (zt 38)
  (.seq (.sem (.fork [zr 40 (.mv (zt 0)), zr 41 (.fa 5 (zt 3)), zr 42 (.ld (zt 41)), zr 43 (.ia 6 (zt 42) (zi 0)), zr 44 (.ldn 6 (zt 43)), zr 46 (.mv (zt 0)), zr 47 (.fa 5 (zt 3)), zr 48 (.ld (zt 47)), zr 49 (.ia 6 (zt 48) (zi 1)), zr 50 (.ldn 6 (zt 49))]
  rc88_10
  rc88_17))
  rc88_18)
  (.seq (.run [zr 82 (.bin .eql (zt 12) (zi 3)), za 81 (zt 82)])
  (.cond (zt 81)
  (.seq (.sem (.fork [zr 83 (.mv (zt 0)), zr 84 (.fa 5 (zt 3)), zr 85 (.ld (zt 84)), zr 86 (.ia 6 (zt 85) (zi 0)), zr 87 (.ldn 6 (zt 86)), zr 89 (.mv (zt 0)), zr 90 (.fa 5 (zt 3)), zr 91 (.ld (zt 90)), zr 92 (.ia 6 (zt 91) (zi 1)), zr 93 (.ldn 6 (zt 92))]
  rc88_29
  rc88_36))
  rc88_37)
  (.seq (.run [zr 113 (.bin .eql (zt 12) (zi 4)), za 112 (zt 113)])
  (.cond (zt 112)
  (.seq (.run [zr 114 (.mv (zt 0)), zr 115 (.fa 5 (zt 3)), zr 116 (.ld (zt 115)), zr 117 (.ia 6 (zt 116) (zi 0)), zr 118 (.ldn 6 (zt 117)), zc 119 88 [(zt 114), (zt 118)], zf 10 (.al [(.map none), (.map none), (.bool false)] 186), ze (.st 3 (zt 10) (zt 119))])
  (.seq (.run [zr 120 (.mv (zt 0)), zr 121 (.fa 1 (zt 10)), zr 122 (.ld (zt 121)), zr 123 (.fa 0 (zt 10)), zr 124 (.ld (zt 123)), zc 125 97 [(zt 120), (zt 122), (zt 124)]])
  (.seq (.run [zr 126 (.fa 0 (zt 10)), zr 127 (.ld (zt 126)), zr 128 (.fa 1 (zt 10)), zr 129 (.ld (zt 128)), zr 130 (.bld [(.map none), (.map none), (.bool false)] [(0, 1, (zt 127)), (1, 1, (zt 129)), (2, 1, (.const (.bool true)))]), ze (.st 3 (zt 4) (zt 130))])
  .ret)))
  .skip))))))))))
  rc88_38))
def ce88 : List (Nat × List Nat × List Nat) := [(4, [0, 1, 2, 3, 4, 5, 6, 7, 8, 9, 10, 11], [0, 0, 2, 6, 14, 0, 32, 96, 254, 511, 1023, 2047]), (7, [0, 1, 2, 3, 4, 6, 7, 8, 9, 10, 1000, 5, 1000, 11, 1000, 12, 13, 14, 15, 1001, 13, 12, 14, 15, 1001, 1000, 12, 1000, 11, 13, 14, 15, 1001, 13, 11, 14, 15, 1001, 13, 1000, 11, 12, 14, 15, 1001, 12, 11, 14, 15, 1001, 1000, 12, 1000, 5, 1000, 11, 13, 14, 15, 1001, 13, 11, 14, 15, 1001, 13, 5, 11, 14, 15, 1001, 13, 1000, 5, 1000, 11, 12, 14, 15, 1001, 12, 11, 14, 15, 1001, 12, 5, 11, 14, 15], [0, 0, 2, 6, 14, 31, 0, 0, 128, 384, 896, 2047, 0, 0, 16383, 32767]), (9, [0, 1, 2, 3, 4, 5, 8, 9, 10, 11, 12, 13, 16, 17, 6, 7, 14, 15, 18, 19, 20, 21, 22, 23], [0, 1, 0, 4, 0, 16, 60, 127, 0, 256, 0, 1024, 0, 4096, 15615, 32767, 0, 65536, 262143, 524287, 1048575, 2097151, 4194303, 8388607]), (11, [0, 1, 2, 3, 4, 6, 7, 8, 9, 10, 1000, 5, 1000, 11, 1000, 12, 13, 14, 15, 1001, 13, 12, 14, 15, 1001, 1000, 12, 1000, 11, 13, 14, 15, 1001, 13, 11, 14, 15, 1001, 13, 1000, 11, 12, 14, 15, 1001, 12, 11, 14, 15, 1001, 1000, 12, 1000, 5, 1000, 11, 13, 14, 15, 1001, 13, 11, 14, 15, 1001, 13, 5, 11, 14, 15, 1001, 13, 1000, 5, 1000, 11, 12, 14, 15, 1001, 12, 11, 14, 15, 1001, 12, 5, 11, 14, 15], [0, 0, 2, 6, 14, 31, 0, 0, 128, 384, 896, 2047, 0, 0, 16383, 32767]), (12, [0, 1, 2, 3, 5, 6, 7, 8, 10, 11, 4, 9, 12, 13, 14, 15, 16, 17], [0, 1, 0, 4, 15, 0, 32, 0, 128, 511, 0, 1024, 4095, 8191, 16383, 32767, 65535, 131071])]
def ro88 : List RO := [(.ldn 3 (zt 4))]
theorem ok88 : okFn Tryz.prog 88 132 ce88 = some (rc88, ro88) := by kernel_rfl
/-! strings.HasPrefix -/

def rc89 : RC := (.seq (.run [za 4 (.const (.bool false))])
  (.seq (.run [zr 5 (.mv (zt 0)), zr 6 (.mv (zt 1)), zc 7 100 [(zt 5), (zt 6)], za 4 (zt 7)])
  .ret))
def ce89 : List (Nat × List Nat × List Nat) := []
def ro89 : List RO := [(.mv (zt 4))]
theorem ok89 : okFn Tryz.prog 89 8 ce89 = some (rc89, ro89) := by kernel_rfl
/-! strconv.ParseUint -/
def rc90_0 : RC := (.seq (.run [zr 25 (.mv (zt 8)), za 6 (zt 25), za 7 (.const .nilIface)])
  .ret)
def rc90 : RC := (.seq (.run [za 6 (.const (.int .u64 0)), za 7 (.const .nilIface)])
  (.seq (.run [zr 11 (.mv (zt 0)), zr 12 (.mv (zt 1)), zr 13 (.mv (zt 2)), zc 14 101 [(zt 11), (zt 12), (zt 13)], zr 10 (.mv (zt 14)), zr 15 (.ext 0 (zt 10)), zr 16 (.ext 1 (zt 10)), za 8 (zt 15), za 9 (zt 16)])
  (.seq (.seq (.run [zr 17 (.mv (zt 9)), zr 18 (.eq true (.iface []) (zt 17) (.const .nilIface))])
  (.cond (zt 18)
  (.seq (.run [zr 19 (.mv (zt 8)), zr 20 (.mv (zt 0)), zr 21 (.mv (zt 1)), zr 22 (.mv (zt 2)), zr 23 (.mv (zt 9)), zc 24 102 [(.const (.string ⟨#[80, 97, 114, 115, 101, 85, 105, 110, 116]⟩)), (zt 20), (zt 21), (zt 22), (zt 23)], za 6 (zt 19), za 7 (zt 24)])
  .ret)
  .skip))
  rc90_0)))
def ce90 : List (Nat × List Nat × List Nat) := []
def ro90 : List RO := [(.mv (zt 6)), (.mv (zt 7))]
theorem ok90 : okFn Tryz.prog 90 26 ce90 = some (rc90, ro90) := by kernel_rfl
/-! strconv.FormatUint -/

def rc91 : RC := (.seq (.run [za 4 (.const (.string ⟨#[]⟩))])
  (.seq (.run [zr 5 (.mv (zt 0)), zr 6 (.mv (zt 1)), zc 7 103 [(zt 5), (zt 6)], za 4 (zt 7)])
  .ret))
def ce91 : List (Nat × List Nat × List Nat) := []
def ro91 : List RO := [(.mv (zt 4))]
theorem ok91 : okFn Tryz.prog 91 8 ce91 = some (rc91, ro91) := by kernel_rfl
/-! internal/stringslite.IndexByte -/

def rc92 : RC := (.seq (.run [za 4 (zi 0)])
  (.seq (.run [zr 5 (.mv (zt 0)), zr 6 (.mv (zt 1)), zc 7 104 [(zt 5), (zt 6)], za 4 (zt 7)])
  .ret))
def ce92 : List (Nat × List Nat × List Nat) := []
def ro92 : List RO := [(.mv (zt 4))]
theorem ok92 : okFn Tryz.prog 92 8 ce92 = some (rc92, ro92) := by kernel_rfl
/-! (*strings.Builder).grow -/

def rc93 : RC := (.seq (.run [zr 5 (.mv (zt 0)), zr 6 (.nck (zt 5)), zr 7 (.fa 1 (zt 6)), zr 8 (.ld (zt 7)), zr 9 (.capn (zt 8)), zr 10 (.bin .mul (zi 2) (zt 9)), zr 11 (.mv (zt 1)), zr 12 (.bin .add (zt 10) (zt 11)), zr 14 (.mv (zt 0)), zr 15 (.nck (zt 14)), zr 16 (.fa 1 (zt 15)), zr 17 (.ld (zt 16)), zr 18 (.lenl (zt 17)), ⟨(some 13), none, (.c (.fn 105 [(zt 12)])), [(17, none, .ld (zt 16))]⟩, zr 19 (.sl 1 (zt 13) none (some (zt 18))), za 4 (zt 19)])
  (.seq (.run [zr 20 (.mv (zt 4)), zr 21 (.mv (zt 0)), zr 22 (.nck (zt 21)), zr 23 (.fa 1 (zt 22)), zr 24 (.ld (zt 23)), zf 25 (.cpy 1 (zt 20) (zt 24))])
  (.run [zr 26 (.mv (zt 0)), zr 27 (.mv (zt 4)), zr 28 (.nck (zt 26)), zr 29 (.fa 1 (zt 28)), ze (.st 1 (zt 29) (zt 27))])))
def ce93 : List (Nat × List Nat × List Nat) := [(0, [0, 1, 2, 3, 4, 5, 6, 7, 9, 10, 11, 12, 13, 8, 14, 15], [0, 1, 3, 7, 15, 31, 0, 127, 255, 0, 512, 1536, 3584, 7680, 16383, 32767])]
def ro93 : List RO := []
theorem ok93 : okFn Tryz.prog 93 30 ce93 = some (rc93, ro93) := by kernel_rfl
/-! internal/strconv.FormatInt -/
def rc94_0 : RC := (.seq (.run [zr 40 (.mv (zt 7)), zr 41 (.bin .add (zi 1) (zt 40)), zr 42 (.sla 24 1 (zt 5) (some (zi 1)) (some (zt 41))), zr 43 (.b2s (zt 42)), za 4 (zt 43)])
  .ret)
def rc94_1 : RC := (.seq (.run [zr 26 (.mv (zt 6)), zc 27 107 [(zt 26)], za 7 (zt 27)])
  (.seq (.run [zr 28 (.mv (zt 7)), zr 29 (.bin .add (zi 1) (zt 28)), zr 30 (.sla 24 1 (zt 5) (some (zi 1)) (some (zt 29))), zr 31 (.mv (zt 6)), zc 32 108 [(zt 30), (zt 31)]])
  (.seq (.seq (.run [zr 33 (.mv (zt 0)), zr 34 (.bin .lss (zt 33) (zi 0))])
  (.cond (zt 34)
  (.seq (.run [zr 35 (.iaa 24 1 (zt 5) (zi 0)), ze (.st 1 (zt 35) (.const (.int .u8 45)))])
  (.seq (.run [zr 36 (.mv (zt 7)), zr 37 (.bin .add (zi 1) (zt 36)), zr 38 (.sla 24 1 (zt 5) none (some (zt 37))), zr 39 (.b2s (zt 38)), za 4 (zt 39)])
  .ret))
  .skip))
  rc94_0)))
def rc94_2 : RC := (.seq (.run [zf 5 (.al [(.int .u8 0), (.int .u8 0), (.int .u8 0), (.int .u8 0), (.int .u8 0), (.int .u8 0), (.int .u8 0), (.int .u8 0), (.int .u8 0), (.int .u8 0), (.int .u8 0), (.int .u8 0), (.int .u8 0), (.int .u8 0), (.int .u8 0), (.int .u8 0), (.int .u8 0), (.int .u8 0), (.int .u8 0), (.int .u8 0), (.int .u8 0), (.int .u8 0), (.int .u8 0), (.int .u8 0)] 199)])
  (.seq (.run [zr 20 (.mv (zt 0)), zr 21 (.cvi .u64 (zt 20)), za 6 (zt 21)])
  (.seq (.seq (.run [zr 22 (.mv (zt 0)), zr 23 (.bin .lss (zt 22) (zi 0))])
  (.cond (zt 23)
  (.run [zr 24 (.mv (zt 6)), zr 25 (.neg (zt 24)), za 6 (zt 25)])
  .skip))
  rc94_1)))
def rc94_3 : RC := (.seq (.run [zr 45 (.mv (zt 0)), zr 46 (.cvi .u64 (zt 45)), zr 47 (.mv (zt 1)), zr 48 (.mv (zt 0)), zr 49 (.bin .lss (zt 48) (zi 0)), zc 50 109 [(.const (.slice none 0 0)), (zt 46), (zt 47), (zt 49), (.const (.bool false))], zr 44 (.mv (zt 50)), zr 51 (.ext 0 (zt 44)), zr 52 (.ext 1 (zt 44)), za 8 (zt 51), za 9 (zt 52)])
  (.seq (.run [zr 53 (.mv (zt 9)), za 4 (zt 53)])
  .ret))
def rc94 : RC := (.seq (.run [za 4 (.const (.string ⟨#[]⟩))])
  (.seq (.seq (.run [zr 10 (.mv (zt 1)), zr 11 (.bin .eql (zt 10) (zi 10))])
  (.cond (zt 11)
  (.seq (.seq (.run [zr 12 (.mv (zt 0)), zr 13 (.bin .leq (zi 0) (zt 12)), zr 14 (.mv (zt 13)), zg 15 14 true (.mv (zt 0)), zg 16 14 true (.bin .lss (zt 15) (zi 100)), zr 17 (.pick (zt 14) (zt 16) (.const (.bool false)))])
  (.cond (zt 17)
  (.seq (.run [zr 18 (.mv (zt 0)), zc 19 106 [(zt 18)], za 4 (zt 19)])
  .ret)
  .skip))
  rc94_2)
  .skip))
  rc94_3))
def ce94 : List (Nat × List Nat × List Nat) := []
def ro94 : List RO := [(.mv (zt 4))]
theorem ok94 : okFn Tryz.prog 94 54 ce94 = some (rc94, ro94) := by kernel_rfl
/-! (*lifeline/regex.reader).then -/
def rc95_0 : RC := (.seq (.seq (.run [zr 33 (.mv (zt 7))])
  (.cond (zt 33)
  (.seq (.run [zr 34 (.ldn 6 (zt 8)), ze (.st 6 (zt 6) (zt 34))])
  (.exit 1))
  .skip))
  (.run [zr 35 (.ldn 6 (zt 6)), zr 36 (.ldn 6 (zt 8)), zf 37 (.bsl 76 6 2 [(.int .i64 0), (.int .u64 0), (.int .u64 0), (.int .u64 0), (.int .u64 0), (.slice none 0 0), (.int .i64 0), (.int .u64 0), (.int .u64 0), (.int .u64 0), (.int .u64 0), (.slice none 0 0)] [(0, 6, (zt 35)), (6, 6, (zt 36))]), zr 38 (.bld [(.int .i64 0), (.int .u64 0), (.int .u64 0), (.int .u64 0), (.int .u64 0), (.slice none 0 0)] [(0, 1, (zi 2)), (5, 1, (zt 37))]), ze (.st 6 (zt 6) (zt 38))]))
def rc95_1 : RC := (.seq (.block 1 (.seq (.run [zr 24 (.mv (zt 0)), zr 25 (.mv (zt 1)), zc 26 110 [(zt 24), (zt 25)], zr 23 (.mv (zt 26)), zr 27 (.ext 0 (zt 23)), zr 28 (.ext 1 (zt 23)), zf 8 (.al [(.int .i64 0), (.int .u64 0), (.int .u64 0), (.int .u64 0), (.int .u64 0), (.slice none 0 0)] 76), ze (.st 6 (zt 8) (zt 27)), za 9 (zt 28)])
  (.seq (.seq (.run [zr 29 (.mv (zt 9)), zr 30 (.eq true (.iface []) (zt 29) (.const .nilIface))])
  (.cond (zt 30)
  (.seq (.run [zr 31 (.bld [(.int .i64 0), (.int .u64 0), (.int .u64 0), (.int .u64 0), (.int .u64 0), (.slice none 0 0)] []), zr 32 (.mv (zt 9)), ze (.st 6 (zt 4) (zt 31)), za 5 (zt 32)])
  .ret)
  .skip))
  rc95_0)))
  (.run [za 7 (.const (.bool false))]))
def rc95_2 : RC := (.seq (.seq (.run [zr 11 (.mv (zt 0)), zc 12 86 [(zt 11)], zr 13 (.mv (zt 12)), zg 14 13 true (.mv (zt 0)), ⟨(some 15), (some (13, true)), (.c (.fn 96 [(zt 14), (.const (.int .u8 124))])), []⟩, zg 16 13 true (.not (zt 15)), zr 17 (.pick (zt 13) (zt 16) (.const (.bool false))), zr 18 (.mv (zt 17)), zg 19 18 true (.mv (zt 0)), ⟨(some 20), (some (18, true)), (.c (.fn 96 [(zt 19), (.const (.int .u8 41))])), []⟩, zg 21 18 true (.not (zt 20)), zr 22 (.pick (zt 18) (zt 21) (.const (.bool false)))])
  (.cond (zt 22)
  .skip
  (.exit 0)))
  rc95_1)
def rc95_3 : RC := (.seq (.run [zr 39 (.ldn 6 (zt 6)), ze (.st 6 (zt 4) (zt 39)), za 5 (.const .nilIface)])
  .ret)
def rc95 : RC := (.seq (.run [zf 4 (.al [(.int .i64 0), (.int .u64 0), (.int .u64 0), (.int .u64 0), (.int .u64 0), (.slice none 0 0)] 76), za 5 (.const .nilIface)])
  (.seq (.run [zr 10 (.bld [(.int .i64 0), (.int .u64 0), (.int .u64 0), (.int .u64 0), (.int .u64 0), (.slice none 0 0)] []), zf 6 (.al [(.int .i64 0), (.int .u64 0), (.int .u64 0), (.int .u64 0), (.int .u64 0), (.slice none 0 0)] 76), ze (.st 6 (zt 6) (zt 10))])
  (.seq (.seq (.run [za 7 (.const (.bool true))])
  (.block 0 (.loop rc95_2)))
  rc95_3)))
def ce95 : List (Nat × List Nat × List Nat) := []
def ro95 : List RO := [(.ldn 6 (zt 4)), (.mv (zt 5))]
theorem ok95 : okFn Tryz.prog 95 40 ce95 = some (rc95, ro95) := by kernel_rfl
/-! (*lifeline/regex.reader).is -/

def rc96 : RC := (.seq (.run [za 4 (.const (.bool false))])
  (.seq (.run [zr 5 (.mv (zt 0)), zc 6 86 [(zt 5)], zr 7 (.mv (zt 6)), zg 8 7 true (.mv (zt 0)), zg 9 7 true (.nck (zt 8)), zg 10 7 true (.fa 0 (zt 9)), zg 11 7 true (.ld (zt 10)), zg 12 7 true (.mv (zt 0)), zg 13 7 true (.nck (zt 12)), zg 14 7 true (.fa 1 (zt 13)), zg 15 7 true (.ld (zt 14)), zg 16 7 true (.ixs (zt 11) (zt 15)), zg 17 7 true (.mv (zt 1)), zg 18 7 true (.bin .eql (zt 16) (zt 17)), zr 19 (.pick (zt 7) (zt 18) (.const (.bool false))), za 4 (zt 19)])
  .ret))
def ce96 : List (Nat × List Nat × List Nat) := [(1, [0, 1, 2, 3, 4, 5, 6, 7, 8, 9, 10, 11, 12, 13, 14, 15], [0, 1, 3, 7, 15, 31, 63, 7, 135, 391, 903, 2047, 7, 8191, 16383, 32767])]
def ro96 : List RO := [(.mv (zt 4))]
theorem ok96 : okFn Tryz.prog 96 20 ce96 = some (rc96, ro96) := by kernel_rfl
/-! (*lifeline/nfa.maker).join -/
def rc97_0 : RC := (.block 3 (.seq (.run [zr 18 (.ent (zt 15)), zr 19 (.ext 0 (zt 18)), za 7 (zt 19)])
  (.run [zr 20 (.mv (zt 0)), zr 21 (.nck (zt 20)), zr 22 (.fa 1 (zt 21)), zr 23 (.ld (zt 22)), zr 24 (.mv (zt 6)), zr 25 (.mv (zt 7)), zr 26 (.bld [(.int .i64 0), (.int .i64 0)] [(0, 1, (zt 24)), (1, 1, (zt 25))]), ze (.mup 2 (zt 23) (zt 26) (.const (.bool true)))])))
def rc97_1 : RC := (.seq (.run [⟨(some 16), none, (.nx (zt 15)), []⟩, zr 17 (.ext 0 (zt 16))])
  (.seq (.cond (zt 17)
  .skip
  (.exit 2))
  rc97_0))
def rc97_2 : RC := (.block 1 (.seq (.run [zr 12 (.ent (zt 9)), zr 13 (.ext 0 (zt 12)), za 6 (zt 13)])
  (.seq (.run [zr 14 (.mv (zt 2)), zf 15 (.rgm (zt 14))])
  (.block 2 (.loop rc97_1)))))
def rc97_3 : RC := (.seq (.run [⟨(some 10), none, (.nx (zt 9)), []⟩, zr 11 (.ext 0 (zt 10))])
  (.seq (.cond (zt 11)
  .skip
  (.exit 0))
  rc97_2))
def rc97 : RC := (.seq (.run [zr 8 (.mv (zt 1)), zf 9 (.rgm (zt 8))])
  (.block 0 (.loop rc97_3)))
def ce97 : List (Nat × List Nat × List Nat) := []
def ro97 : List RO := []
theorem ok97 : okFn Tryz.prog 97 27 ce97 = some (rc97, ro97) := by kernel_rfl
/-! lifeline/nfa.both -/
def rc98_0 : RC := (.block 1 (.seq (.run [zr 13 (.ent (zt 10)), zr 14 (.ext 0 (zt 13)), za 6 (zt 14)])
  (.run [zr 15 (.mv (zt 5)), zr 16 (.mv (zt 6)), ze (.mup 0 (zt 15) (zt 16) (.const (.bool true)))])))
def rc98_1 : RC := (.seq (.run [⟨(some 11), none, (.nx (zt 10)), []⟩, zr 12 (.ext 0 (zt 11))])
  (.seq (.cond (zt 12)
  .skip
  (.exit 0))
  rc98_0))
def rc98_2 : RC := (.block 3 (.seq (.run [zr 21 (.ent (zt 18)), zr 22 (.ext 0 (zt 21)), za 7 (zt 22)])
  (.run [zr 23 (.mv (zt 5)), zr 24 (.mv (zt 7)), ze (.mup 0 (zt 23) (zt 24) (.const (.bool true)))])))
def rc98_3 : RC := (.seq (.run [⟨(some 19), none, (.nx (zt 18)), []⟩, zr 20 (.ext 0 (zt 19))])
  (.seq (.cond (zt 20)
  .skip
  (.exit 2))
  rc98_2))
def rc98_4 : RC := (.seq (.run [zr 25 (.mv (zt 5)), za 4 (zt 25)])
  .ret)
def rc98_5 : RC := (.seq (.seq (.run [zr 17 (.mv (zt 1)), zf 18 (.rgm (zt 17))])
  (.block 2 (.loop rc98_3)))
  rc98_4)
def rc98 : RC := (.seq (.run [za 4 (.const (.map none))])
  (.seq (.run [zf 8 (.mkm), za 5 (zt 8)])
  (.seq (.seq (.run [zr 9 (.mv (zt 0)), zf 10 (.rgm (zt 9))])
  (.block 0 (.loop rc98_1)))
  rc98_5)))
def ce98 : List (Nat × List Nat × List Nat) := []
def ro98 : List RO := [(.mv (zt 4))]
theorem ok98 : okFn Tryz.prog 98 26 ce98 = some (rc98, ro98) := by kernel_rfl
/-! lifeline/nfa.some -/
def rc99_0 : RC := (.seq (.run [za 4 (.const (.map none))])
  .ret)
def rc99 : RC := (.seq (.run [za 4 (.const (.map none))])
  (.seq (.seq (.run [zr 5 (.mv (zt 0))])
  (.cond (zt 5)
  (.seq (.run [zr 6 (.mv (zt 1)), za 4 (zt 6)])
  .ret)
  .skip))
  rc99_0))
def ce99 : List (Nat × List Nat × List Nat) := []
def ro99 : List RO := [(.mv (zt 4))]
theorem ok99 : okFn Tryz.prog 99 7 ce99 = some (rc99, ro99) := by kernel_rfl
/-! internal/stringslite.HasPrefix -/

def rc100 : RC := (.seq (.run [za 4 (.const (.bool false))])
  (.seq (.run [zr 5 (.mv (zt 0)), zr 6 (.lens (zt 5)), zr 7 (.mv (zt 1)), zr 8 (.lens (zt 7)), zr 9 (.bin .geq (zt 6) (zt 8)), zr 10 (.mv (zt 9)), zg 11 10 true (.mv (zt 0)), zg 12 10 true (.mv (zt 1)), zg 13 10 true (.lens (zt 12)), zg 14 10 true (.sls (zt 11) none (some (zt 13))), zg 15 10 true (.mv (zt 1)), zg 16 10 true (.bin .eql (zt 14) (zt 15)), zr 17 (.pick (zt 10) (zt 16) (.const (.bool false))), za 4 (zt 17)])
  .ret))
def ce100 : List (Nat × List Nat × List Nat) := []
def ro100 : List RO := [(.mv (zt 4))]
theorem ok100 : okFn Tryz.prog 100 18 ce100 = some (rc100, ro100) := by kernel_rfl
/-! internal/strconv.ParseUint -/
def rc101_0 : RC := (.seq (.run [zr 144 (.mv (zt 13)), zr 145 (.mv (zt 1)), zr 146 (.cvi .u64 (zt 145)), zr 147 (.bin .mul (zt 144) (zt 146)), za 13 (zt 147)])
  (.seq (.run [zr 148 (.mv (zt 13)), zr 149 (.mv (zt 16)), zr 150 (.cvi .u64 (zt 149)), zr 151 (.bin .add (zt 148) (zt 150)), za 17 (zt 151)])
  (.seq (.seq (.run [zr 152 (.mv (zt 17)), zr 153 (.mv (zt 13)), zr 154 (.bin .lss (zt 152) (zt 153)), zr 155 (.mv (zt 154)), zg 156 155 false (.mv (zt 17)), zg 157 155 false (.mv (zt 11)), zg 158 155 false (.bin .gtr (zt 156) (zt 157)), zr 159 (.pick (zt 155) (.const (.bool true)) (zt 158))])
  (.cond (zt 159)
  (.seq (.run [zr 160 (.mv (zt 11)), zr 161 (.mki 204 (zi 1)), za 6 (zt 160), za 7 (zt 161)])
  .ret)
  .skip))
  (.run [zr 162 (.mv (zt 17)), za 13 (zt 162)]))))
def rc101_1 : RC := (.seq (.seq (.run [zr 139 (.mv (zt 13)), zr 140 (.mv (zt 10)), zr 141 (.bin .geq (zt 139) (zt 140))])
  (.cond (zt 141)
  (.seq (.run [zr 142 (.mv (zt 11)), zr 143 (.mki 204 (zi 1)), za 6 (zt 142), za 7 (zt 143)])
  .ret)
  .skip))
  rc101_0)
def rc101_2 : RC := (.seq (.seq (.run [zr 134 (.mv (zt 16)), zr 135 (.mv (zt 1)), zr 136 (.cvi .u8 (zt 135)), zr 137 (.bin .geq (zt 134) (zt 136))])
  (.cond (zt 137)
  (.seq (.run [zr 138 (.mki 204 (zi 2)), za 6 (.const (.int .u64 0)), za 7 (zt 138)])
  .ret)
  .skip))
  rc101_1)
def rc101_3 : RC := (.seq (.block 4 (.seq (.run [zr 103 (.ia 1 (zt 99) (zt 101)), zr 104 (.ld (zt 103)), za 15 (zt 104)])
  (.seq (.run [za 16 (.const (.int .u8 0))])
  (.seq (.block 5 (.seq (.run [zr 107 (.mv (zt 15)), zr 108 (.bin .eql (zt 107) (.const (.int .u8 95))), zr 109 (.mv (zt 108)), zg 110 109 true (.mv (zt 8)), zr 111 (.pick (zt 109) (zt 110) (.const (.bool false))), za 106 (zt 111)])
  (.cond (zt 106)
  (.seq (.run [za 12 (.const (.bool true))])
  (.exit 4))
  (.seq (.run [zr 113 (.mv (zt 15)), zr 114 (.bin .leq (.const (.int .u8 48)) (zt 113)), zr 115 (.mv (zt 114)), zg 116 115 true (.mv (zt 15)), zg 117 115 true (.bin .leq (zt 116) (.const (.int .u8 57))), zr 118 (.pick (zt 115) (zt 117) (.const (.bool false))), za 112 (zt 118)])
  (.cond (zt 112)
  (.run [zr 119 (.mv (zt 15)), zr 120 (.bin .sub (zt 119) (.const (.int .u8 48))), za 16 (zt 120)])
  (.seq (.run [zr 122 (.mv (zt 15)), zc 123 111 [(zt 122)], zr 124 (.bin .leq (.const (.int .u8 97)) (zt 123)), zr 125 (.mv (zt 124)), zg 126 125 true (.mv (zt 15)), ⟨(some 127), (some (125, true)), (.c (.fn 111 [(zt 126)])), []⟩, zg 128 125 true (.bin .leq (zt 127) (.const (.int .u8 122))), zr 129 (.pick (zt 125) (zt 128) (.const (.bool false))), za 121 (zt 129)])
  (.cond (zt 121)
  (.run [zr 130 (.mv (zt 15)), zc 131 111 [(zt 130)], zr 132 (.bin .sub (zt 131) (.const (.int .u8 97))), zr 133 (.bin .add (zt 132) (.const (.int .u8 10))), za 16 (zt 133)])
  (.seq (.run [zr 105 (.mki 204 (zi 2)), za 6 (.const (.int .u64 0)), za 7 (zt 105)])
  .ret))))))))
  rc101_2))))
  (.run [zr 163 (.bin .add (zt 101) (zi 1)), zr 101 (.mv (zt 163))]))
def rc101_4 : RC := (.seq (.run [zr 102 (.bin .lss (zt 101) (zt 100))])
  (.seq (.cond (zt 102)
  .skip
  (.exit 3))
  rc101_3))
def rc101_5 : RC := (.seq (.run [zr 171 (.mv (zt 13)), za 6 (zt 171), za 7 (.const .nilIface)])
  .ret)
def rc101_6 : RC := (.seq (.seq (.run [zr 164 (.mv (zt 12)), zr 165 (.mv (zt 164)), zg 166 165 true (.mv (zt 9)), ⟨(some 167), (some (165, true)), (.c (.fn 112 [(zt 166)])), []⟩, zg 168 165 true (.not (zt 167)), zr 169 (.pick (zt 165) (zt 168) (.const (.bool false)))])
  (.cond (zt 169)
  (.seq (.run [zr 170 (.mki 204 (zi 2)), za 6 (.const (.int .u64 0)), za 7 (zt 170)])
  .ret)
  .skip))
  rc101_5)
def rc101_7 : RC := (.seq (.run [zr 94 (.mv (zt 2)), zr 95 (.cvi .u64 (zt 94)), zr 96 (.bin .shl (.const (.int .u64 1)) (zt 95)), zr 97 (.bin .sub (zt 96) (.const (.int .u64 1))), za 11 (zt 97)])
  (.seq (.run [za 12 (.const (.bool false))])
  (.seq (.run [za 13 (.const (.int .u64 0))])
  (.seq (.seq (.run [zr 98 (.mv (zt 0)), zf 99 (.s2b 5 (zt 98)), zr 100 (.lenl (zt 99)), zr 101 (.mv (zi 0))])
  (.block 3 (.loop rc101_4)))
  rc101_6))))
def rc101_8 : RC := (.seq (.run [za 10 (.const (.int .u64 0))])
  (.seq (.seq (.run [zr 85 (.mv (zt 1))])
  (.block 2 (.seq (.run [zr 91 (.bin .eql (zt 85) (zi 10)), za 90 (zt 91)])
  (.cond (zt 90)
  (.run [za 10 (.const (.int .u64 1844674407370955162))])
  (.seq (.run [zr 93 (.bin .eql (zt 85) (zi 16)), za 92 (zt 93)])
  (.cond (zt 92)
  (.run [za 10 (.const (.int .u64 1152921504606846976))])
  (.run [zr 86 (.mv (zt 1)), zr 87 (.cvi .u64 (zt 86)), zr 88 (.bin .quo (.const (.int .u64 18446744073709551615)) (zt 87)), zr 89 (.bin .add (zt 88) (.const (.int .u64 1))), za 10 (zt 89)])))))))
  rc101_7))
def rc101_9 : RC := (.seq (.seq (.run [zr 76 (.mv (zt 2)), zr 77 (.bin .eql (zt 76) (zi 0))])
  (.cond (zt 77)
  (.run [za 2 (zi 64)])
  (.seq (.run [zr 78 (.mv (zt 2)), zr 79 (.bin .lss (zt 78) (zi 0)), zr 80 (.mv (zt 79)), zg 81 80 false (.mv (zt 2)), zg 82 80 false (.bin .gtr (zt 81) (zi 64)), zr 83 (.pick (zt 80) (.const (.bool true)) (zt 82))])
  (.cond (zt 83)
  (.seq (.run [zr 84 (.mki 204 (zi 4)), za 6 (.const (.int .u64 0)), za 7 (zt 84)])
  .ret)
  .skip))))
  rc101_8)
def rc101_10 : RC := (.seq (.run [zr 21 (.mv (zt 1)), zr 22 (.bin .eql (zt 21) (zi 0)), za 8 (zt 22)])
  (.seq (.run [zr 23 (.mv (zt 0)), za 9 (zt 23)])
  (.seq (.block 0 (.seq (.run [zr 26 (.mv (zt 1)), zr 27 (.bin .leq (zi 2) (zt 26)), zr 28 (.mv (zt 27)), zg 29 28 true (.mv (zt 1)), zg 30 28 true (.bin .leq (zt 29) (zi 36)), zr 31 (.pick (zt 28) (zt 30) (.const (.bool false))), za 25 (zt 31)])
  (.cond (zt 25)
  .skip
  (.seq (.run [zr 33 (.mv (zt 1)), zr 34 (.bin .eql (zt 33) (zi 0)), za 32 (zt 34)])
  (.cond (zt 32)
  (.seq (.run [za 1 (zi 10)])
  (.seq (.run [zr 35 (.mv (zt 0)), zr 36 (.ixs (zt 35) (zi 0)), zr 37 (.bin .eql (zt 36) (.const (.int .u8 48)))])
  (.cond (zt 37)
  (.block 1 (.seq (.run [zr 41 (.mv (zt 0)), zr 42 (.lens (zt 41)), zr 43 (.bin .geq (zt 42) (zi 3)), zr 44 (.mv (zt 43)), zg 45 44 true (.mv (zt 0)), zg 46 44 true (.ixs (zt 45) (zi 1)), ⟨(some 47), (some (44, true)), (.c (.fn 111 [(zt 46)])), []⟩, zg 48 44 true (.bin .eql (zt 47) (.const (.int .u8 98))), zr 49 (.pick (zt 44) (zt 48) (.const (.bool false))), za 40 (zt 49)])
  (.cond (zt 40)
  (.seq (.run [za 1 (zi 2)])
  (.run [zr 50 (.mv (zt 0)), zr 51 (.sls (zt 50) (some (zi 2)) none), za 0 (zt 51)]))
  (.seq (.run [zr 53 (.mv (zt 0)), zr 54 (.lens (zt 53)), zr 55 (.bin .geq (zt 54) (zi 3)), zr 56 (.mv (zt 55)), zg 57 56 true (.mv (zt 0)), zg 58 56 true (.ixs (zt 57) (zi 1)), ⟨(some 59), (some (56, true)), (.c (.fn 111 [(zt 58)])), []⟩, zg 60 56 true (.bin .eql (zt 59) (.const (.int .u8 111))), zr 61 (.pick (zt 56) (zt 60) (.const (.bool false))), za 52 (zt 61)])
  (.cond (zt 52)
  (.seq (.run [za 1 (zi 8)])
  (.run [zr 62 (.mv (zt 0)), zr 63 (.sls (zt 62) (some (zi 2)) none), za 0 (zt 63)]))
  (.seq (.run [zr 65 (.mv (zt 0)), zr 66 (.lens (zt 65)), zr 67 (.bin .geq (zt 66) (zi 3)), zr 68 (.mv (zt 67)), zg 69 68 true (.mv (zt 0)), zg 70 68 true (.ixs (zt 69) (zi 1)), ⟨(some 71), (some (68, true)), (.c (.fn 111 [(zt 70)])), []⟩, zg 72 68 true (.bin .eql (zt 71) (.const (.int .u8 120))), zr 73 (.pick (zt 68) (zt 72) (.const (.bool false))), za 64 (zt 73)])
  (.cond (zt 64)
  (.seq (.run [za 1 (zi 16)])
  (.run [zr 74 (.mv (zt 0)), zr 75 (.sls (zt 74) (some (zi 2)) none), za 0 (zt 75)]))
  (.seq (.run [za 1 (zi 8)])
  (.run [zr 38 (.mv (zt 0)), zr 39 (.sls (zt 38) (some (zi 1)) none), za 0 (zt 39)])))))))))
  .skip)))
  (.seq (.run [zr 24 (.mki 204 (zi 3)), za 6 (.const (.int .u64 0)), za 7 (zt 24)])
  .ret))))))
  rc101_9)))
def rc101 : RC := (.seq (.run [za 6 (.const (.int .u64 0)), za 7 (.const .nilIface)])
  (.seq (.seq (.run [zr 18 (.mv (zt 0)), zr 19 (.bin .eql (zt 18) (.const (.string ⟨#[]⟩)))])
  (.cond (zt 19)
  (.seq (.run [zr 20 (.mki 204 (zi 2)), za 6 (.const (.int .u64 0)), za 7 (zt 20)])
  .ret)
  .skip))
  rc101_10))
def ce101 : List (Nat × List Nat × List Nat) := []
def ro101 : List RO := [(.mv (zt 6)), (.mv (zt 7))]
theorem ok101 : okFn Tryz.prog 101 172 ce101 = some (rc101, ro101) := by kernel_rfl
/-! strconv.toError -/
def rc102_0 : RC := (.seq (.run [zr 42 (.mv (zt 4)), za 10 (zt 42)])
  .ret)
def rc102 : RC := (.seq (.run [za 10 (.const .nilIface)])
  (.seq (.seq (.run [zr 11 (.mv (zt 4))])
  (.block 0 (.seq (.run [zr 13 (.mki 204 (zi 2)), zr 14 (.ieq false [2, 3, 5, 6, 12, 21, 26, 39, 54, 70, 71, 85, 122, 129, 204, 206, 212, 235, 237, 238, 247, 251] (zt 11) (zt 13)), za 12 (zt 14)])
  (.cond (zt 12)
  (.seq (.run [zr 15 (.mv (zt 0)), zr 16 (.mv (zt 1)), zc 17 113 [(zt 15), (zt 16)], zr 18 (.mki 207 (zt 17)), za 10 (zt 18)])
  .ret)
  (.seq (.run [zr 20 (.mki 204 (zi 1)), zr 21 (.ieq false [2, 3, 5, 6, 12, 21, 26, 39, 54, 70, 71, 85, 122, 129, 204, 206, 212, 235, 237, 238, 247, 251] (zt 11) (zt 20)), za 19 (zt 21)])
  (.cond (zt 19)
  (.seq (.run [zr 22 (.mv (zt 0)), zr 23 (.mv (zt 1)), zc 24 114 [(zt 22), (zt 23)], zr 25 (.mki 207 (zt 24)), za 10 (zt 25)])
  .ret)
  (.seq (.run [zr 27 (.mki 204 (zi 3)), zr 28 (.ieq false [2, 3, 5, 6, 12, 21, 26, 39, 54, 70, 71, 85, 122, 129, 204, 206, 212, 235, 237, 238, 247, 251] (zt 11) (zt 27)), za 26 (zt 28)])
  (.cond (zt 26)
  (.seq (.run [zr 29 (.mv (zt 0)), zr 30 (.mv (zt 1)), zr 31 (.mv (zt 2)), zc 32 115 [(zt 29), (zt 30), (zt 31)], zr 33 (.mki 207 (zt 32)), za 10 (zt 33)])
  .ret)
  (.seq (.run [zr 35 (.mki 204 (zi 4)), zr 36 (.ieq false [2, 3, 5, 6, 12, 21, 26, 39, 54, 70, 71, 85, 122, 129, 204, 206, 212, 235, 237, 238, 247, 251] (zt 11) (zt 35)), za 34 (zt 36)])
  (.cond (zt 34)
  (.seq (.run [zr 37 (.mv (zt 0)), zr 38 (.mv (zt 1)), zr 39 (.mv (zt 3)), zc 40 116 [(zt 37), (zt 38), (zt 39)], zr 41 (.mki 207 (zt 40)), za 10 (zt 41)])
  .ret)
  .skip))))))))))
  rc102_0))
def ce102 : List (Nat × List Nat × List Nat) := []
def ro102 : List RO := [(.mv (zt 10))]
theorem ok102 : okFn Tryz.prog 102 43 ce102 = some (rc102, ro102) := by kernel_rfl
/-! internal/strconv.FormatUint -/
def rc103_0 : RC := (.seq (.run [zf 5 (.al [(.int .u8 0), (.int .u8 0), (.int .u8 0), (.int .u8 0), (.int .u8 0), (.int .u8 0), (.int .u8 0), (.int .u8 0), (.int .u8 0), (.int .u8 0), (.int .u8 0), (.int .u8 0), (.int .u8 0), (.int .u8 0), (.int .u8 0), (.int .u8 0), (.int .u8 0), (.int .u8 0), (.int .u8 0), (.int .u8 0), (.int .u8 0), (.int .u8 0), (.int .u8 0), (.int .u8 0)] 199)])
  (.seq (.run [zr 16 (.mv (zt 0)), zc 17 107 [(zt 16)], za 6 (zt 17)])
  (.seq (.run [zr 18 (.mv (zt 6)), zr 19 (.sla 24 1 (zt 5) none (some (zt 18))), zr 20 (.mv (zt 0)), zc 21 108 [(zt 19), (zt 20)]])
  (.seq (.run [zr 22 (.mv (zt 6)), zr 23 (.sla 24 1 (zt 5) none (some (zt 22))), zr 24 (.b2s (zt 23)), za 4 (zt 24)])
  .ret))))
def rc103_1 : RC := (.seq (.run [zr 26 (.mv (zt 0)), zr 27 (.mv (zt 1)), zc 28 109 [(.const (.slice none 0 0)), (zt 26), (zt 27), (.const (.bool false)), (.const (.bool false))], zr 25 (.mv (zt 28)), zr 29 (.ext 0 (zt 25)), zr 30 (.ext 1 (zt 25)), za 7 (zt 29), za 8 (zt 30)])
  (.seq (.run [zr 31 (.mv (zt 8)), za 4 (zt 31)])
  .ret))
def rc103 : RC := (.seq (.run [za 4 (.const (.string ⟨#[]⟩))])
  (.seq (.seq (.run [zr 9 (.mv (zt 1)), zr 10 (.bin .eql (zt 9) (zi 10))])
  (.cond (zt 10)
  (.seq (.seq (.run [zr 11 (.mv (zt 0)), zr 12 (.bin .lss (zt 11) (.const (.int .u64 100)))])
  (.cond (zt 12)
  (.seq (.run [zr 13 (.mv (zt 0)), zr 14 (.cvi .i64 (zt 13)), zc 15 106 [(zt 14)], za 4 (zt 15)])
  .ret)
  .skip))
  rc103_0)
  .skip))
  rc103_1))
def ce103 : List (Nat × List Nat × List Nat) := []
def ro103 : List RO := [(.mv (zt 4))]
theorem ok103 : okFn Tryz.prog 103 32 ce103 = some (rc103, ro103) := by kernel_rfl
/-! internal/strconv.small -/
def rc106_0 : RC := (.seq (.run [zr 9 (.mv (zt 0)), zr 10 (.bin .mul (zt 9) (zi 2)), zr 11 (.mv (zt 0)), zr 12 (.bin .mul (zt 11) (zi 2)), zr 13 (.bin .add (zt 12) (zi 2)), zr 14 (.sls (.const (.string ⟨#[48, 48, 48, 49, 48, 50, 48, 51, 48, 52, 48, 53, 48, 54, 48, 55, 48, 56, 48, 57, 49, 48, 49, 49, 49, 50, 49, 51, 49, 52, 49, 53, 49, 54, 49, 55, 49, 56, 49, 57, 50, 48, 50, 49, 50, 50, 50, 51, 50, 52, 50, 53, 50, 54, 50, 55, 50, 56, 50, 57, 51, 48, 51, 49, 51, 50, 51, 51, 51, 52, 51, 53, 51, 54, 51, 55, 51, 56, 51, 57, 52, 48, 52, 49, 52, 50, 52, 51, 52, 52, 52, 53, 52, 54, 52, 55, 52, 56, 52, 57, 53, 48, 53, 49, 53, 50, 53, 51, 53, 52, 53, 53, 53, 54, 53, 55, 53, 56, 53, 57, 54, 48, 54, 49, 54, 50, 54, 51, 54, 52, 54, 53, 54, 54, 54, 55, 54, 56, 54, 57, 55, 48, 55, 49, 55, 50, 55, 51, 55, 52, 55, 53, 55, 54, 55, 55, 55, 56, 55, 57, 56, 48, 56, 49, 56, 50, 56, 51, 56, 52, 56, 53, 56, 54, 56, 55, 56, 56, 56, 57, 57, 48, 57, 49, 57, 50, 57, 51, 57, 52, 57, 53, 57, 54, 57, 55, 57, 56, 57, 57]⟩)) (some (zt 10)) (some (zt 13))), za 2 (zt 14)])
  .ret)
def rc106 : RC := (.seq (.run [za 2 (.const (.string ⟨#[]⟩))])
  (.seq (.seq (.run [zr 3 (.mv (zt 0)), zr 4 (.bin .lss (zt 3) (zi 10))])
  (.cond (zt 4)
  (.seq (.run [zr 5 (.mv (zt 0)), zr 6 (.mv (zt 0)), zr 7 (.bin .add (zt 6) (zi 1)), zr 8 (.sls (.const (.string ⟨#[48, 49, 50, 51, 52, 53, 54, 55, 56, 57, 97, 98, 99, 100, 101, 102, 103, 104, 105, 106, 107, 108, 109, 110, 111, 112, 113, 114, 115, 116, 117, 118, 119, 120, 121, 122]⟩)) (some (zt 5)) (some (zt 7))), za 2 (zt 8)])
  .ret)
  .skip))
  rc106_0))
def ce106 : List (Nat × List Nat × List Nat) := []
def ro106 : List RO := [(.mv (zt 2))]
theorem ok106 : okFn Tryz.prog 106 15 ce106 = some (rc106, ro106) := by kernel_rfl
/-! internal/strconv.numDigits -/

def rc107 : RC := (.seq (.run [za 2 (zi 0)])
  (.seq (.run [zr 4 (.mv (zt 0)), zc 5 118 [(zt 4)], zc 6 117 [(zt 5)], za 3 (zt 6)])
  (.seq (.run [zr 7 (.mv (zt 3)), zr 8 (.mv (zt 0)), zr 9 (.mv (zt 3)), zr 10 (.iaa 20 1 (.global 2) (zt 9)), zr 11 (.ld (zt 10)), zr 12 (.bin .geq (zt 8) (zt 11)), zc 13 119 [(zt 12)], zr 14 (.bin .add (zt 7) (zt 13)), za 2 (zt 14)])
  .ret)))
def ce107 : List (Nat × List Nat × List Nat) := []
def ro107 : List RO := [(.mv (zt 2))]
theorem ok107 : okFn Tryz.prog 107 15 ce107 = some (rc107, ro107) := by kernel_rfl
end Go.Proofs.YtjlicambfepfiaaGreatDoor.Ab

set_option maxHeartbeats 4000000
namespace Go.Proofs.YtjlicambfepfiaaGreatDoor.Ab
open Go Go.RowKit
/-! internal/strconv.formatBase10 -/
def rc108_0 : RC := (.block 1 (.seq (.run [zr 21 (.mv (zt 1)), zr 22 (.bin .rem (zt 21) (.const (.int .u64 100000000))), zr 23 (.cvi .u32 (zt 22)), za 5 (zt 23)])
  (.seq (.run [zr 24 (.mv (zt 1)), zr 25 (.bin .quo (zt 24) (.const (.int .u64 100000000))), za 1 (zt 25)])
  (.seq (.run [zr 26 (.mv (zt 5)), zr 27 (.bin .quo (zt 26) (.const (.int .u32 10000))), zr 28 (.mv (zt 5)), zr 29 (.bin .rem (zt 28) (.const (.int .u32 10000))), za 6 (zt 27), za 7 (zt 29)])
  (.seq (.run [zr 30 (.mv (zt 7)), zr 31 (.bin .quo (zt 30) (.const (.int .u32 100))), zr 32 (.bin .mul (zt 31) (.const (.int .u32 2))), zr 33 (.mv (zt 7)), zr 34 (.bin .rem (zt 33) (.const (.int .u32 100))), zr 35 (.bin .mul (zt 34) (.const (.int .u32 2))), za 8 (zt 32), za 9 (zt 35)])
  (.seq (.run [zr 36 (.mv (zt 6)), zr 37 (.bin .quo (zt 36) (.const (.int .u32 100))), zr 38 (.bin .mul (zt 37) (.const (.int .u32 2))), zr 39 (.mv (zt 6)), zr 40 (.bin .rem (zt 39) (.const (.int .u32 100))), zr 41 (.bin .mul (zt 40) (.const (.int .u32 2))), za 10 (zt 38), za 11 (zt 41)])
  (.seq (.run [zr 42 (.mv (zt 0)), zr 43 (.mv (zt 4)), zr 44 (.bin .sub (zt 43) (zi 1)), zr 45 (.mv (zt 0)), zr 46 (.mv (zt 4)), zr 47 (.bin .sub (zt 46) (zi 2)), zr 48 (.mv (zt 9)), zr 49 (.bin .add (zt 48) (.const (.int .u32 1))), zr 50 (.ixs (.const (.string ⟨#[48, 48, 48, 49, 48, 50, 48, 51, 48, 52, 48, 53, 48, 54, 48, 55, 48, 56, 48, 57, 49, 48, 49, 49, 49, 50, 49, 51, 49, 52, 49, 53, 49, 54, 49, 55, 49, 56, 49, 57, 50, 48, 50, 49, 50, 50, 50, 51, 50, 52, 50, 53, 50, 54, 50, 55, 50, 56, 50, 57, 51, 48, 51, 49, 51, 50, 51, 51, 51, 52, 51, 53, 51, 54, 51, 55, 51, 56, 51, 57, 52, 48, 52, 49, 52, 50, 52, 51, 52, 52, 52, 53, 52, 54, 52, 55, 52, 56, 52, 57, 53, 48, 53, 49, 53, 50, 53, 51, 53, 52, 53, 53, 53, 54, 53, 55, 53, 56, 53, 57, 54, 48, 54, 49, 54, 50, 54, 51, 54, 52, 54, 53, 54, 54, 54, 55, 54, 56, 54, 57, 55, 48, 55, 49, 55, 50, 55, 51, 55, 52, 55, 53, 55, 54, 55, 55, 55, 56, 55, 57, 56, 48, 56, 49, 56, 50, 56, 51, 56, 52, 56, 53, 56, 54, 56, 55, 56, 56, 56, 57, 57, 48, 57, 49, 57, 50, 57, 51, 57, 52, 57, 53, 57, 54, 57, 55, 57, 56, 57, 57]⟩)) (zt 49)), zr 51 (.mv (zt 9)), zr 52 (.ixs (.const (.string ⟨#[48, 48, 48, 49, 48, 50, 48, 51, 48, 52, 48, 53, 48, 54, 48, 55, 48, 56, 48, 57, 49, 48, 49, 49, 49, 50, 49, 51, 49, 52, 49, 53, 49, 54, 49, 55, 49, 56, 49, 57, 50, 48, 50, 49, 50, 50, 50, 51, 50, 52, 50, 53, 50, 54, 50, 55, 50, 56, 50, 57, 51, 48, 51, 49, 51, 50, 51, 51, 51, 52, 51, 53, 51, 54, 51, 55, 51, 56, 51, 57, 52, 48, 52, 49, 52, 50, 52, 51, 52, 52, 52, 53, 52, 54, 52, 55, 52, 56, 52, 57, 53, 48, 53, 49, 53, 50, 53, 51, 53, 52, 53, 53, 53, 54, 53, 55, 53, 56, 53, 57, 54, 48, 54, 49, 54, 50, 54, 51, 54, 52, 54, 53, 54, 54, 54, 55, 54, 56, 54, 57, 55, 48, 55, 49, 55, 50, 55, 51, 55, 52, 55, 53, 55, 54, 55, 55, 55, 56, 55, 57, 56, 48, 56, 49, 56, 50, 56, 51, 56, 52, 56, 53, 56, 54, 56, 55, 56, 56, 56, 57, 57, 48, 57, 49, 57, 50, 57, 51, 57, 52, 57, 53, 57, 54, 57, 55, 57, 56, 57, 57]⟩)) (zt 51)), zr 53 (.ia 1 (zt 42) (zt 44)), ze (.st 1 (zt 53) (zt 50)), zr 54 (.ia 1 (zt 45) (zt 47)), ze (.st 1 (zt 54) (zt 52))])
  (.seq (.run [zr 55 (.mv (zt 0)), zr 56 (.mv (zt 4)), zr 57 (.bin .sub (zt 56) (zi 3)), zr 58 (.mv (zt 0)), zr 59 (.mv (zt 4)), zr 60 (.bin .sub (zt 59) (zi 4)), zr 61 (.mv (zt 8)), zr 62 (.bin .add (zt 61) (.const (.int .u32 1))), zr 63 (.ixs (.const (.string ⟨#[48, 48, 48, 49, 48, 50, 48, 51, 48, 52, 48, 53, 48, 54, 48, 55, 48, 56, 48, 57, 49, 48, 49, 49, 49, 50, 49, 51, 49, 52, 49, 53, 49, 54, 49, 55, 49, 56, 49, 57, 50, 48, 50, 49, 50, 50, 50, 51, 50, 52, 50, 53, 50, 54, 50, 55, 50, 56, 50, 57, 51, 48, 51, 49, 51, 50, 51, 51, 51, 52, 51, 53, 51, 54, 51, 55, 51, 56, 51, 57, 52, 48, 52, 49, 52, 50, 52, 51, 52, 52, 52, 53, 52, 54, 52, 55, 52, 56, 52, 57, 53, 48, 53, 49, 53, 50, 53, 51, 53, 52, 53, 53, 53, 54, 53, 55, 53, 56, 53, 57, 54, 48, 54, 49, 54, 50, 54, 51, 54, 52, 54, 53, 54, 54, 54, 55, 54, 56, 54, 57, 55, 48, 55, 49, 55, 50, 55, 51, 55, 52, 55, 53, 55, 54, 55, 55, 55, 56, 55, 57, 56, 48, 56, 49, 56, 50, 56, 51, 56, 52, 56, 53, 56, 54, 56, 55, 56, 56, 56, 57, 57, 48, 57, 49, 57, 50, 57, 51, 57, 52, 57, 53, 57, 54, 57, 55, 57, 56, 57, 57]⟩)) (zt 62)), zr 64 (.mv (zt 8)), zr 65 (.ixs (.const (.string ⟨#[48, 48, 48, 49, 48, 50, 48, 51, 48, 52, 48, 53, 48, 54, 48, 55, 48, 56, 48, 57, 49, 48, 49, 49, 49, 50, 49, 51, 49, 52, 49, 53, 49, 54, 49, 55, 49, 56, 49, 57, 50, 48, 50, 49, 50, 50, 50, 51, 50, 52, 50, 53, 50, 54, 50, 55, 50, 56, 50, 57, 51, 48, 51, 49, 51, 50, 51, 51, 51, 52, 51, 53, 51, 54, 51, 55, 51, 56, 51, 57, 52, 48, 52, 49, 52, 50, 52, 51, 52, 52, 52, 53, 52, 54, 52, 55, 52, 56, 52, 57, 53, 48, 53, 49, 53, 50, 53, 51, 53, 52, 53, 53, 53, 54, 53, 55, 53, 56, 53, 57, 54, 48, 54, 49, 54, 50, 54, 51, 54, 52, 54, 53, 54, 54, 54, 55, 54, 56, 54, 57, 55, 48, 55, 49, 55, 50, 55, 51, 55, 52, 55, 53, 55, 54, 55, 55, 55, 56, 55, 57, 56, 48, 56, 49, 56, 50, 56, 51, 56, 52, 56, 53, 56, 54, 56, 55, 56, 56, 56, 57, 57, 48, 57, 49, 57, 50, 57, 51, 57, 52, 57, 53, 57, 54, 57, 55, 57, 56, 57, 57]⟩)) (zt 64)), zr 66 (.ia 1 (zt 55) (zt 57)), ze (.st 1 (zt 66) (zt 63)), zr 67 (.ia 1 (zt 58) (zt 60)), ze (.st 1 (zt 67) (zt 65))])
  (.seq (.run [zr 68 (.mv (zt 0)), zr 69 (.mv (zt 4)), zr 70 (.bin .sub (zt 69) (zi 5)), zr 71 (.mv (zt 0)), zr 72 (.mv (zt 4)), zr 73 (.bin .sub (zt 72) (zi 6)), zr 74 (.mv (zt 11)), zr 75 (.bin .add (zt 74) (.const (.int .u32 1))), zr 76 (.ixs (.const (.string ⟨#[48, 48, 48, 49, 48, 50, 48, 51, 48, 52, 48, 53, 48, 54, 48, 55, 48, 56, 48, 57, 49, 48, 49, 49, 49, 50, 49, 51, 49, 52, 49, 53, 49, 54, 49, 55, 49, 56, 49, 57, 50, 48, 50, 49, 50, 50, 50, 51, 50, 52, 50, 53, 50, 54, 50, 55, 50, 56, 50, 57, 51, 48, 51, 49, 51, 50, 51, 51, 51, 52, 51, 53, 51, 54, 51, 55, 51, 56, 51, 57, 52, 48, 52, 49, 52, 50, 52, 51, 52, 52, 52, 53, 52, 54, 52, 55, 52, 56, 52, 57, 53, 48, 53, 49, 53, 50, 53, 51, 53, 52, 53, 53, 53, 54, 53, 55, 53, 56, 53, 57, 54, 48, 54, 49, 54, 50, 54, 51, 54, 52, 54, 53, 54, 54, 54, 55, 54, 56, 54, 57, 55, 48, 55, 49, 55, 50, 55, 51, 55, 52, 55, 53, 55, 54, 55, 55, 55, 56, 55, 57, 56, 48, 56, 49, 56, 50, 56, 51, 56, 52, 56, 53, 56, 54, 56, 55, 56, 56, 56, 57, 57, 48, 57, 49, 57, 50, 57, 51, 57, 52, 57, 53, 57, 54, 57, 55, 57, 56, 57, 57]⟩)) (zt 75)), zr 77 (.mv (zt 11)), zr 78 (.ixs (.const (.string ⟨#[48, 48, 48, 49, 48, 50, 48, 51, 48, 52, 48, 53, 48, 54, 48, 55, 48, 56, 48, 57, 49, 48, 49, 49, 49, 50, 49, 51, 49, 52, 49, 53, 49, 54, 49, 55, 49, 56, 49, 57, 50, 48, 50, 49, 50, 50, 50, 51, 50, 52, 50, 53, 50, 54, 50, 55, 50, 56, 50, 57, 51, 48, 51, 49, 51, 50, 51, 51, 51, 52, 51, 53, 51, 54, 51, 55, 51, 56, 51, 57, 52, 48, 52, 49, 52, 50, 52, 51, 52, 52, 52, 53, 52, 54, 52, 55, 52, 56, 52, 57, 53, 48, 53, 49, 53, 50, 53, 51, 53, 52, 53, 53, 53, 54, 53, 55, 53, 56, 53, 57, 54, 48, 54, 49, 54, 50, 54, 51, 54, 52, 54, 53, 54, 54, 54, 55, 54, 56, 54, 57, 55, 48, 55, 49, 55, 50, 55, 51, 55, 52, 55, 53, 55, 54, 55, 55, 55, 56, 55, 57, 56, 48, 56, 49, 56, 50, 56, 51, 56, 52, 56, 53, 56, 54, 56, 55, 56, 56, 56, 57, 57, 48, 57, 49, 57, 50, 57, 51, 57, 52, 57, 53, 57, 54, 57, 55, 57, 56, 57, 57]⟩)) (zt 77)), zr 79 (.ia 1 (zt 68) (zt 70)), ze (.st 1 (zt 79) (zt 76)), zr 80 (.ia 1 (zt 71) (zt 73)), ze (.st 1 (zt 80) (zt 78))])
  (.seq (.run [zr 81 (.mv (zt 0)), zr 82 (.mv (zt 4)), zr 83 (.bin .sub (zt 82) (zi 7)), zr 84 (.mv (zt 0)), zr 85 (.mv (zt 4)), zr 86 (.bin .sub (zt 85) (zi 8)), zr 87 (.mv (zt 10)), zr 88 (.bin .add (zt 87) (.const (.int .u32 1))), zr 89 (.ixs (.const (.string ⟨#[48, 48, 48, 49, 48, 50, 48, 51, 48, 52, 48, 53, 48, 54, 48, 55, 48, 56, 48, 57, 49, 48, 49, 49, 49, 50, 49, 51, 49, 52, 49, 53, 49, 54, 49, 55, 49, 56, 49, 57, 50, 48, 50, 49, 50, 50, 50, 51, 50, 52, 50, 53, 50, 54, 50, 55, 50, 56, 50, 57, 51, 48, 51, 49, 51, 50, 51, 51, 51, 52, 51, 53, 51, 54, 51, 55, 51, 56, 51, 57, 52, 48, 52, 49, 52, 50, 52, 51, 52, 52, 52, 53, 52, 54, 52, 55, 52, 56, 52, 57, 53, 48, 53, 49, 53, 50, 53, 51, 53, 52, 53, 53, 53, 54, 53, 55, 53, 56, 53, 57, 54, 48, 54, 49, 54, 50, 54, 51, 54, 52, 54, 53, 54, 54, 54, 55, 54, 56, 54, 57, 55, 48, 55, 49, 55, 50, 55, 51, 55, 52, 55, 53, 55, 54, 55, 55, 55, 56, 55, 57, 56, 48, 56, 49, 56, 50, 56, 51, 56, 52, 56, 53, 56, 54, 56, 55, 56, 56, 56, 57, 57, 48, 57, 49, 57, 50, 57, 51, 57, 52, 57, 53, 57, 54, 57, 55, 57, 56, 57, 57]⟩)) (zt 88)), zr 90 (.mv (zt 10)), zr 91 (.ixs (.const (.string ⟨#[48, 48, 48, 49, 48, 50, 48, 51, 48, 52, 48, 53, 48, 54, 48, 55, 48, 56, 48, 57, 49, 48, 49, 49, 49, 50, 49, 51, 49, 52, 49, 53, 49, 54, 49, 55, 49, 56, 49, 57, 50, 48, 50, 49, 50, 50, 50, 51, 50, 52, 50, 53, 50, 54, 50, 55, 50, 56, 50, 57, 51, 48, 51, 49, 51, 50, 51, 51, 51, 52, 51, 53, 51, 54, 51, 55, 51, 56, 51, 57, 52, 48, 52, 49, 52, 50, 52, 51, 52, 52, 52, 53, 52, 54, 52, 55, 52, 56, 52, 57, 53, 48, 53, 49, 53, 50, 53, 51, 53, 52, 53, 53, 53, 54, 53, 55, 53, 56, 53, 57, 54, 48, 54, 49, 54, 50, 54, 51, 54, 52, 54, 53, 54, 54, 54, 55, 54, 56, 54, 57, 55, 48, 55, 49, 55, 50, 55, 51, 55, 52, 55, 53, 55, 54, 55, 55, 55, 56, 55, 57, 56, 48, 56, 49, 56, 50, 56, 51, 56, 52, 56, 53, 56, 54, 56, 55, 56, 56, 56, 57, 57, 48, 57, 49, 57, 50, 57, 51, 57, 52, 57, 53, 57, 54, 57, 55, 57, 56, 57, 57]⟩)) (zt 90)), zr 92 (.ia 1 (zt 81) (zt 83)), ze (.st 1 (zt 92) (zt 89)), zr 93 (.ia 1 (zt 84) (zt 86)), ze (.st 1 (zt 93) (zt 91))])
  (.run [zr 94 (.mv (zt 4)), zr 95 (.bin .sub (zt 94) (zi 8)), za 4 (zt 95)])))))))))))
def rc108_1 : RC := (.seq (.seq (.run [zr 19 (.mv (zt 4)), zr 20 (.bin .geq (zt 19) (zi 8))])
  (.cond (zt 20)
  .skip
  (.exit 0)))
  rc108_0)
def rc108_2 : RC := (.seq (.run [zr 160 (.mv (zt 4)), zr 161 (.bin .gtr (zt 160) (zi 0))])
  (.cond (zt 161)
  (.run [zr 162 (.mv (zt 0)), zr 163 (.mv (zt 12)), zr 164 (.bin .add (.const (.int .u32 48)) (zt 163)), zr 165 (.cvi .u8 (zt 164)), zr 166 (.ia 1 (zt 162) (zi 0)), ze (.st 1 (zt 166) (zt 165))])
  .skip))
def rc108_3 : RC := (.seq (.seq (.run [zr 138 (.mv (zt 4)), zr 139 (.bin .geq (zt 138) (zi 2))])
  (.cond (zt 139)
  (.seq (.run [zr 140 (.mv (zt 12)), zr 141 (.bin .rem (zt 140) (.const (.int .u32 100))), zr 142 (.bin .mul (zt 141) (.const (.int .u32 2))), za 16 (zt 142)])
  (.seq (.run [zr 143 (.mv (zt 12)), zr 144 (.bin .quo (zt 143) (.const (.int .u32 100))), za 12 (zt 144)])
  (.seq (.run [zr 145 (.mv (zt 0)), zr 146 (.mv (zt 4)), zr 147 (.bin .sub (zt 146) (zi 1)), zr 148 (.mv (zt 0)), zr 149 (.mv (zt 4)), zr 150 (.bin .sub (zt 149) (zi 2)), zr 151 (.mv (zt 16)), zr 152 (.bin .add (zt 151) (.const (.int .u32 1))), zr 153 (.ixs (.const (.string ⟨#[48, 48, 48, 49, 48, 50, 48, 51, 48, 52, 48, 53, 48, 54, 48, 55, 48, 56, 48, 57, 49, 48, 49, 49, 49, 50, 49, 51, 49, 52, 49, 53, 49, 54, 49, 55, 49, 56, 49, 57, 50, 48, 50, 49, 50, 50, 50, 51, 50, 52, 50, 53, 50, 54, 50, 55, 50, 56, 50, 57, 51, 48, 51, 49, 51, 50, 51, 51, 51, 52, 51, 53, 51, 54, 51, 55, 51, 56, 51, 57, 52, 48, 52, 49, 52, 50, 52, 51, 52, 52, 52, 53, 52, 54, 52, 55, 52, 56, 52, 57, 53, 48, 53, 49, 53, 50, 53, 51, 53, 52, 53, 53, 53, 54, 53, 55, 53, 56, 53, 57, 54, 48, 54, 49, 54, 50, 54, 51, 54, 52, 54, 53, 54, 54, 54, 55, 54, 56, 54, 57, 55, 48, 55, 49, 55, 50, 55, 51, 55, 52, 55, 53, 55, 54, 55, 55, 55, 56, 55, 57, 56, 48, 56, 49, 56, 50, 56, 51, 56, 52, 56, 53, 56, 54, 56, 55, 56, 56, 56, 57, 57, 48, 57, 49, 57, 50, 57, 51, 57, 52, 57, 53, 57, 54, 57, 55, 57, 56, 57, 57]⟩)) (zt 152)), zr 154 (.mv (zt 16)), zr 155 (.ixs (.const (.string ⟨#[48, 48, 48, 49, 48, 50, 48, 51, 48, 52, 48, 53, 48, 54, 48, 55, 48, 56, 48, 57, 49, 48, 49, 49, 49, 50, 49, 51, 49, 52, 49, 53, 49, 54, 49, 55, 49, 56, 49, 57, 50, 48, 50, 49, 50, 50, 50, 51, 50, 52, 50, 53, 50, 54, 50, 55, 50, 56, 50, 57, 51, 48, 51, 49, 51, 50, 51, 51, 51, 52, 51, 53, 51, 54, 51, 55, 51, 56, 51, 57, 52, 48, 52, 49, 52, 50, 52, 51, 52, 52, 52, 53, 52, 54, 52, 55, 52, 56, 52, 57, 53, 48, 53, 49, 53, 50, 53, 51, 53, 52, 53, 53, 53, 54, 53, 55, 53, 56, 53, 57, 54, 48, 54, 49, 54, 50, 54, 51, 54, 52, 54, 53, 54, 54, 54, 55, 54, 56, 54, 57, 55, 48, 55, 49, 55, 50, 55, 51, 55, 52, 55, 53, 55, 54, 55, 55, 55, 56, 55, 57, 56, 48, 56, 49, 56, 50, 56, 51, 56, 52, 56, 53, 56, 54, 56, 55, 56, 56, 56, 57, 57, 48, 57, 49, 57, 50, 57, 51, 57, 52, 57, 53, 57, 54, 57, 55, 57, 56, 57, 57]⟩)) (zt 154)), zr 156 (.ia 1 (zt 145) (zt 147)), ze (.st 1 (zt 156) (zt 153)), zr 157 (.ia 1 (zt 148) (zt 150)), ze (.st 1 (zt 157) (zt 155))])
  (.run [zr 158 (.mv (zt 4)), zr 159 (.bin .sub (zt 158) (zi 2)), za 4 (zt 159)]))))
  .skip))
  rc108_2)
def rc108_4 : RC := (.seq (.run [zr 96 (.mv (zt 1)), zr 97 (.cvi .u32 (zt 96)), za 12 (zt 97)])
  (.seq (.seq (.run [zr 98 (.mv (zt 4)), zr 99 (.bin .geq (zt 98) (zi 4))])
  (.cond (zt 99)
  (.seq (.run [zr 100 (.mv (zt 12)), zr 101 (.bin .rem (zt 100) (.const (.int .u32 10000))), za 13 (zt 101)])
  (.seq (.run [zr 102 (.mv (zt 12)), zr 103 (.bin .quo (zt 102) (.const (.int .u32 10000))), za 12 (zt 103)])
  (.seq (.run [zr 104 (.mv (zt 13)), zr 105 (.bin .quo (zt 104) (.const (.int .u32 100))), zr 106 (.bin .mul (zt 105) (.const (.int .u32 2))), zr 107 (.mv (zt 13)), zr 108 (.bin .rem (zt 107) (.const (.int .u32 100))), zr 109 (.bin .mul (zt 108) (.const (.int .u32 2))), za 14 (zt 106), za 15 (zt 109)])
  (.seq (.run [zr 110 (.mv (zt 0)), zr 111 (.mv (zt 4)), zr 112 (.bin .sub (zt 111) (zi 1)), zr 113 (.mv (zt 0)), zr 114 (.mv (zt 4)), zr 115 (.bin .sub (zt 114) (zi 2)), zr 116 (.mv (zt 15)), zr 117 (.bin .add (zt 116) (.const (.int .u32 1))), zr 118 (.ixs (.const (.string ⟨#[48, 48, 48, 49, 48, 50, 48, 51, 48, 52, 48, 53, 48, 54, 48, 55, 48, 56, 48, 57, 49, 48, 49, 49, 49, 50, 49, 51, 49, 52, 49, 53, 49, 54, 49, 55, 49, 56, 49, 57, 50, 48, 50, 49, 50, 50, 50, 51, 50, 52, 50, 53, 50, 54, 50, 55, 50, 56, 50, 57, 51, 48, 51, 49, 51, 50, 51, 51, 51, 52, 51, 53, 51, 54, 51, 55, 51, 56, 51, 57, 52, 48, 52, 49, 52, 50, 52, 51, 52, 52, 52, 53, 52, 54, 52, 55, 52, 56, 52, 57, 53, 48, 53, 49, 53, 50, 53, 51, 53, 52, 53, 53, 53, 54, 53, 55, 53, 56, 53, 57, 54, 48, 54, 49, 54, 50, 54, 51, 54, 52, 54, 53, 54, 54, 54, 55, 54, 56, 54, 57, 55, 48, 55, 49, 55, 50, 55, 51, 55, 52, 55, 53, 55, 54, 55, 55, 55, 56, 55, 57, 56, 48, 56, 49, 56, 50, 56, 51, 56, 52, 56, 53, 56, 54, 56, 55, 56, 56, 56, 57, 57, 48, 57, 49, 57, 50, 57, 51, 57, 52, 57, 53, 57, 54, 57, 55, 57, 56, 57, 57]⟩)) (zt 117)), zr 119 (.mv (zt 15)), zr 120 (.ixs (.const (.string ⟨#[48, 48, 48, 49, 48, 50, 48, 51, 48, 52, 48, 53, 48, 54, 48, 55, 48, 56, 48, 57, 49, 48, 49, 49, 49, 50, 49, 51, 49, 52, 49, 53, 49, 54, 49, 55, 49, 56, 49, 57, 50, 48, 50, 49, 50, 50, 50, 51, 50, 52, 50, 53, 50, 54, 50, 55, 50, 56, 50, 57, 51, 48, 51, 49, 51, 50, 51, 51, 51, 52, 51, 53, 51, 54, 51, 55, 51, 56, 51, 57, 52, 48, 52, 49, 52, 50, 52, 51, 52, 52, 52, 53, 52, 54, 52, 55, 52, 56, 52, 57, 53, 48, 53, 49, 53, 50, 53, 51, 53, 52, 53, 53, 53, 54, 53, 55, 53, 56, 53, 57, 54, 48, 54, 49, 54, 50, 54, 51, 54, 52, 54, 53, 54, 54, 54, 55, 54, 56, 54, 57, 55, 48, 55, 49, 55, 50, 55, 51, 55, 52, 55, 53, 55, 54, 55, 55, 55, 56, 55, 57, 56, 48, 56, 49, 56, 50, 56, 51, 56, 52, 56, 53, 56, 54, 56, 55, 56, 56, 56, 57, 57, 48, 57, 49, 57, 50, 57, 51, 57, 52, 57, 53, 57, 54, 57, 55, 57, 56, 57, 57]⟩)) (zt 119)), zr 121 (.ia 1 (zt 110) (zt 112)), ze (.st 1 (zt 121) (zt 118)), zr 122 (.ia 1 (zt 113) (zt 115)), ze (.st 1 (zt 122) (zt 120))])
  (.seq (.run [zr 123 (.mv (zt 0)), zr 124 (.mv (zt 4)), zr 125 (.bin .sub (zt 124) (zi 3)), zr 126 (.mv (zt 0)), zr 127 (.mv (zt 4)), zr 128 (.bin .sub (zt 127) (zi 4)), zr 129 (.mv (zt 14)), zr 130 (.bin .add (zt 129) (.const (.int .u32 1))), zr 131 (.ixs (.const (.string ⟨#[48, 48, 48, 49, 48, 50, 48, 51, 48, 52, 48, 53, 48, 54, 48, 55, 48, 56, 48, 57, 49, 48, 49, 49, 49, 50, 49, 51, 49, 52, 49, 53, 49, 54, 49, 55, 49, 56, 49, 57, 50, 48, 50, 49, 50, 50, 50, 51, 50, 52, 50, 53, 50, 54, 50, 55, 50, 56, 50, 57, 51, 48, 51, 49, 51, 50, 51, 51, 51, 52, 51, 53, 51, 54, 51, 55, 51, 56, 51, 57, 52, 48, 52, 49, 52, 50, 52, 51, 52, 52, 52, 53, 52, 54, 52, 55, 52, 56, 52, 57, 53, 48, 53, 49, 53, 50, 53, 51, 53, 52, 53, 53, 53, 54, 53, 55, 53, 56, 53, 57, 54, 48, 54, 49, 54, 50, 54, 51, 54, 52, 54, 53, 54, 54, 54, 55, 54, 56, 54, 57, 55, 48, 55, 49, 55, 50, 55, 51, 55, 52, 55, 53, 55, 54, 55, 55, 55, 56, 55, 57, 56, 48, 56, 49, 56, 50, 56, 51, 56, 52, 56, 53, 56, 54, 56, 55, 56, 56, 56, 57, 57, 48, 57, 49, 57, 50, 57, 51, 57, 52, 57, 53, 57, 54, 57, 55, 57, 56, 57, 57]⟩)) (zt 130)), zr 132 (.mv (zt 14)), zr 133 (.ixs (.const (.string ⟨#[48, 48, 48, 49, 48, 50, 48, 51, 48, 52, 48, 53, 48, 54, 48, 55, 48, 56, 48, 57, 49, 48, 49, 49, 49, 50, 49, 51, 49, 52, 49, 53, 49, 54, 49, 55, 49, 56, 49, 57, 50, 48, 50, 49, 50, 50, 50, 51, 50, 52, 50, 53, 50, 54, 50, 55, 50, 56, 50, 57, 51, 48, 51, 49, 51, 50, 51, 51, 51, 52, 51, 53, 51, 54, 51, 55, 51, 56, 51, 57, 52, 48, 52, 49, 52, 50, 52, 51, 52, 52, 52, 53, 52, 54, 52, 55, 52, 56, 52, 57, 53, 48, 53, 49, 53, 50, 53, 51, 53, 52, 53, 53, 53, 54, 53, 55, 53, 56, 53, 57, 54, 48, 54, 49, 54, 50, 54, 51, 54, 52, 54, 53, 54, 54, 54, 55, 54, 56, 54, 57, 55, 48, 55, 49, 55, 50, 55, 51, 55, 52, 55, 53, 55, 54, 55, 55, 55, 56, 55, 57, 56, 48, 56, 49, 56, 50, 56, 51, 56, 52, 56, 53, 56, 54, 56, 55, 56, 56, 56, 57, 57, 48, 57, 49, 57, 50, 57, 51, 57, 52, 57, 53, 57, 54, 57, 55, 57, 56, 57, 57]⟩)) (zt 132)), zr 134 (.ia 1 (zt 123) (zt 125)), ze (.st 1 (zt 134) (zt 131)), zr 135 (.ia 1 (zt 126) (zt 128)), ze (.st 1 (zt 135) (zt 133))])
  (.run [zr 136 (.mv (zt 4)), zr 137 (.bin .sub (zt 136) (zi 4)), za 4 (zt 137)]))))))
  .skip))
  rc108_3))
def rc108 : RC := (.seq (.run [zr 17 (.mv (zt 0)), zr 18 (.lenl (zt 17)), za 4 (zt 18)])
  (.seq (.block 0 (.loop rc108_1))
  rc108_4))
def ce108 : List (Nat × List Nat × List Nat) := [(7, [0, 1, 2, 3, 4, 5, 6, 7, 8, 9, 10, 11, 12, 13, 14], [0, 0, 2, 0, 0, 16, 0, 64, 192, 0, 512, 455, 2503, 8191, 16383]), (8, [0, 1, 2, 3, 4, 5, 6, 7, 8, 9, 10, 11, 12, 13, 14], [0, 0, 2, 0, 0, 16, 0, 64, 192, 0, 512, 455, 2503, 8191, 16383]), (9, [0, 1, 2, 3, 4, 5, 6, 7, 8, 9, 10, 11, 12, 13, 14], [0, 0, 2, 0, 0, 16, 0, 64, 192, 0, 512, 455, 2503, 8191, 16383]), (10, [0, 1, 2, 3, 4, 5, 6, 7, 8, 9, 10, 11, 12, 13, 14], [0, 0, 2, 0, 0, 16, 0, 64, 192, 0, 512, 455, 2503, 8191, 16383]), (17, [0, 1, 2, 3, 4, 5, 6, 7, 8, 9, 10, 11, 12, 13, 14], [0, 0, 2, 0, 0, 16, 0, 64, 192, 0, 512, 455, 2503, 8191, 16383]), (18, [0, 1, 2, 3, 4, 5, 6, 7, 8, 9, 10, 11, 12, 13, 14], [0, 0, 2, 0, 0, 16, 0, 64, 192, 0, 512, 455, 2503, 8191, 16383]), (23, [0, 1, 2, 3, 4, 5, 6, 7, 8, 9, 10, 11, 12, 13, 14], [0, 0, 2, 0, 0, 16, 0, 64, 192, 0, 512, 455, 2503, 8191, 16383])]
def ro108 : List RO := []
theorem ok108 : okFn Tryz.prog 108 167 ce108 = some (rc108, ro108) := by kernel_rfl
/-! internal/strconv.formatBits -/
def rc109_0 : RC := (.block 1 (.seq (.run [zr 47 (.mv (zt 13)), zr 48 (.bin .sub (zt 47) (zi 1)), za 13 (zt 48)])
  (.seq (.run [zr 49 (.mv (zt 13)), zr 50 (.mv (zt 1)), zr 51 (.mv (zt 16)), zr 52 (.bin .and (zt 50) (zt 51)), zr 53 (.ixs (.const (.string ⟨#[48, 49, 50, 51, 52, 53, 54, 55, 56, 57, 97, 98, 99, 100, 101, 102, 103, 104, 105, 106, 107, 108, 109, 110, 111, 112, 113, 114, 115, 116, 117, 118, 119, 120, 121, 122]⟩)) (zt 52)), zr 54 (.iaa 65 1 (zt 12) (zt 49)), ze (.st 1 (zt 54) (zt 53))])
  (.run [zr 55 (.mv (zt 1)), zr 56 (.mv (zt 14)), zr 57 (.bin .shr (zt 55) (zt 56)), za 1 (zt 57)]))))
def rc109_1 : RC := (.seq (.seq (.run [zr 44 (.mv (zt 1)), zr 45 (.mv (zt 15)), zr 46 (.bin .geq (zt 44) (zt 45))])
  (.cond (zt 46)
  .skip
  (.exit 0)))
  rc109_0)
def rc109_2 : RC := (.seq (.run [zr 58 (.mv (zt 13)), zr 59 (.bin .sub (zt 58) (zi 1)), za 13 (zt 59)])
  (.run [zr 60 (.mv (zt 13)), zr 61 (.mv (zt 1)), zr 62 (.ixs (.const (.string ⟨#[48, 49, 50, 51, 52, 53, 54, 55, 56, 57, 97, 98, 99, 100, 101, 102, 103, 104, 105, 106, 107, 108, 109, 110, 111, 112, 113, 114, 115, 116, 117, 118, 119, 120, 121, 122]⟩)) (zt 61)), zr 63 (.iaa 65 1 (zt 12) (zt 60)), ze (.st 1 (zt 63) (zt 62))]))
def rc109_3 : RC := (.block 3 (.seq (.run [zr 69 (.mv (zt 13)), zr 70 (.bin .sub (zt 69) (zi 1)), za 13 (zt 70)])
  (.seq (.run [zr 71 (.mv (zt 1)), zr 72 (.mv (zt 17)), zr 73 (.bin .quo (zt 71) (zt 72)), za 18 (zt 73)])
  (.seq (.run [zr 74 (.mv (zt 13)), zr 75 (.mv (zt 1)), zr 76 (.mv (zt 18)), zr 77 (.mv (zt 17)), zr 78 (.bin .mul (zt 76) (zt 77)), zr 79 (.bin .sub (zt 75) (zt 78)), zr 80 (.ixs (.const (.string ⟨#[48, 49, 50, 51, 52, 53, 54, 55, 56, 57, 97, 98, 99, 100, 101, 102, 103, 104, 105, 106, 107, 108, 109, 110, 111, 112, 113, 114, 115, 116, 117, 118, 119, 120, 121, 122]⟩)) (zt 79)), zr 81 (.iaa 65 1 (zt 12) (zt 74)), ze (.st 1 (zt 81) (zt 80))])
  (.run [zr 82 (.mv (zt 18)), za 1 (zt 82)])))))
def rc109_4 : RC := (.seq (.seq (.run [zr 66 (.mv (zt 1)), zr 67 (.mv (zt 17)), zr 68 (.bin .geq (zt 66) (zt 67))])
  (.cond (zt 68)
  .skip
  (.exit 2)))
  rc109_3)
def rc109_5 : RC := (.seq (.run [zr 83 (.mv (zt 13)), zr 84 (.bin .sub (zt 83) (zi 1)), za 13 (zt 84)])
  (.run [zr 85 (.mv (zt 13)), zr 86 (.mv (zt 1)), zr 87 (.ixs (.const (.string ⟨#[48, 49, 50, 51, 52, 53, 54, 55, 56, 57, 97, 98, 99, 100, 101, 102, 103, 104, 105, 106, 107, 108, 109, 110, 111, 112, 113, 114, 115, 116, 117, 118, 119, 120, 121, 122]⟩)) (zt 86)), zr 88 (.iaa 65 1 (zt 12) (zt 85)), ze (.st 1 (zt 88) (zt 87))]))
def rc109_6 : RC := (.seq (.run [zr 99 (.mv (zt 13)), zr 100 (.sla 65 1 (zt 12) (some (zt 99)) none), zr 101 (.b2s (zt 100)), za 11 (zt 101)])
  .ret)
def rc109_7 : RC := (.seq (.seq (.run [zr 94 (.mv (zt 4))])
  (.cond (zt 94)
  (.seq (.run [zr 95 (.mv (zt 0)), zr 96 (.mv (zt 13)), zr 97 (.sla 65 1 (zt 12) (some (zt 96)) none), zf 98 (.app 5 1 1 (zt 95) (zt 97)), za 10 (zt 98)])
  .ret)
  .skip))
  rc109_6)
def rc109_8 : RC := (.seq (.seq (.run [zr 89 (.mv (zt 3))])
  (.cond (zt 89)
  (.seq (.run [zr 90 (.mv (zt 13)), zr 91 (.bin .sub (zt 90) (zi 1)), za 13 (zt 91)])
  (.run [zr 92 (.mv (zt 13)), zr 93 (.iaa 65 1 (zt 12) (zt 92)), ze (.st 1 (zt 93) (.const (.int .u8 45)))]))
  .skip))
  rc109_7)
def rc109_9 : RC := (.seq (.seq (.run [zr 33 (.mv (zt 2)), zc 34 120 [(zt 33)]])
  (.cond (zt 34)
  (.seq (.run [zr 35 (.mv (zt 2)), zr 36 (.cvi .u64 (zt 35)), zc 37 121 [(zt 36)], zr 38 (.cvi .u64 (zt 37)), za 14 (zt 38)])
  (.seq (.run [zr 39 (.mv (zt 2)), zr 40 (.cvi .u64 (zt 39)), za 15 (zt 40)])
  (.seq (.run [zr 41 (.mv (zt 2)), zr 42 (.cvi .u64 (zt 41)), zr 43 (.bin .sub (zt 42) (.const (.int .u64 1))), za 16 (zt 43)])
  (.seq (.block 0 (.loop rc109_1))
  rc109_2))))
  (.seq (.run [zr 64 (.mv (zt 2)), zr 65 (.cvi .u64 (zt 64)), za 17 (zt 65)])
  (.seq (.block 2 (.loop rc109_4))
  rc109_5))))
  rc109_8)
def rc109_10 : RC := (.seq (.run [zf 12 (.al [(.int .u8 0), (.int .u8 0), (.int .u8 0), (.int .u8 0), (.int .u8 0), (.int .u8 0), (.int .u8 0), (.int .u8 0), (.int .u8 0), (.int .u8 0), (.int .u8 0), (.int .u8 0), (.int .u8 0), (.int .u8 0), (.int .u8 0), (.int .u8 0), (.int .u8 0), (.int .u8 0), (.int .u8 0), (.int .u8 0), (.int .u8 0), (.int .u8 0), (.int .u8 0), (.int .u8 0), (.int .u8 0), (.int .u8 0), (.int .u8 0), (.int .u8 0), (.int .u8 0), (.int .u8 0), (.int .u8 0), (.int .u8 0), (.int .u8 0), (.int .u8 0), (.int .u8 0), (.int .u8 0), (.int .u8 0), (.int .u8 0), (.int .u8 0), (.int .u8 0), (.int .u8 0), (.int .u8 0), (.int .u8 0), (.int .u8 0), (.int .u8 0), (.int .u8 0), (.int .u8 0), (.int .u8 0), (.int .u8 0), (.int .u8 0), (.int .u8 0), (.int .u8 0), (.int .u8 0), (.int .u8 0), (.int .u8 0), (.int .u8 0), (.int .u8 0), (.int .u8 0), (.int .u8 0), (.int .u8 0), (.int .u8 0), (.int .u8 0), (.int .u8 0), (.int .u8 0), (.int .u8 0)] 213)])
  (.seq (.run [za 13 (zi 65)])
  (.seq (.seq (.run [zr 30 (.mv (zt 3))])
  (.cond (zt 30)
  (.run [zr 31 (.mv (zt 1)), zr 32 (.neg (zt 31)), za 1 (zt 32)])
  .skip))
  rc109_9)))
def rc109 : RC := (.seq (.run [za 10 (.const (.slice none 0 0)), za 11 (.const (.string ⟨#[]⟩))])
  (.seq (.seq (.run [zr 19 (.mv (zt 2)), zr 20 (.bin .lss (zt 19) (zi 2)), zr 21 (.mv (zt 20)), zg 22 21 false (.mv (zt 2)), zg 23 21 false (.bin .eql (zt 22) (zi 10)), zr 24 (.pick (zt 21) (.const (.bool true)) (zt 23)), zr 25 (.mv (zt 24)), zg 26 25 false (.mv (zt 2)), zg 27 25 false (.bin .gtr (zt 26) (zi 36)), zr 28 (.pick (zt 25) (.const (.bool true)) (zt 27))])
  (.cond (zt 28)
  (.run [zr 29 (.mki 9 (.const (.string ⟨#[115, 116, 114, 99, 111, 110, 118, 58, 32, 105, 108, 108, 101, 103, 97, 108, 32, 65, 112, 112, 101, 110, 100, 73, 110, 116, 47, 70, 111, 114, 109, 97, 116, 73, 110, 116, 32, 98, 97, 115, 101]⟩))), ⟨none, none, .bad, []⟩])
  .skip))
  rc109_10))
def ce109 : List (Nat × List Nat × List Nat) := []
def ro109 : List RO := [(.mv (zt 10)), (.mv (zt 11))]
theorem ok109 : okFn Tryz.prog 109 102 ce109 = some (rc109, ro109) := by kernel_rfl
/-! (*lifeline/regex.reader).again -/
def rc110_0 : RC := (.seq (.run [zr 52 (.mv (zt 0)), zr 53 (.nck (zt 52)), zr 54 (.fa 1 (zt 53)), zr 55 (.ld (zt 54)), zr 56 (.bin .add (zt 55) (zi 1)), zr 57 (.nck (zt 52)), zr 58 (.fa 1 (zt 57)), ze (.st 1 (zt 58) (zt 56))])
  (.seq (.run [zr 59 (.ldn 6 (zt 6)), ze (.st 6 (zt 4) (zt 59)), za 5 (.const .nilIface)])
  .ret))
def rc110_1 : RC := (.seq (.seq (.run [zr 23 (.mv (zt 0)), zr 24 (.nck (zt 23)), zr 25 (.fa 0 (zt 24)), zr 26 (.ld (zt 25)), zr 27 (.mv (zt 0)), zr 28 (.nck (zt 27)), zr 29 (.fa 1 (zt 28)), zr 30 (.ld (zt 29)), zr 31 (.ixs (zt 26) (zt 30))])
  (.block 0 (.seq (.run [zr 34 (.bin .eql (zt 31) (.const (.int .u8 42))), za 33 (zt 34)])
  (.cond (zt 33)
  (.run [zr 35 (.ldn 6 (zt 6)), zf 36 (.bsl 76 6 1 [(.int .i64 0), (.int .u64 0), (.int .u64 0), (.int .u64 0), (.int .u64 0), (.slice none 0 0)] [(0, 6, (zt 35))]), zr 37 (.bld [(.int .i64 0), (.int .u64 0), (.int .u64 0), (.int .u64 0), (.int .u64 0), (.slice none 0 0)] [(0, 1, (zi 4)), (5, 1, (zt 36))]), ze (.st 6 (zt 6) (zt 37))])
  (.seq (.run [zr 39 (.bin .eql (zt 31) (.const (.int .u8 43))), za 38 (zt 39)])
  (.cond (zt 38)
  (.run [zr 40 (.ldn 6 (zt 6)), zr 41 (.ldn 6 (zt 6)), zf 42 (.bsl 76 6 1 [(.int .i64 0), (.int .u64 0), (.int .u64 0), (.int .u64 0), (.int .u64 0), (.slice none 0 0)] [(0, 6, (zt 41))]), zr 43 (.bld [(.int .i64 0), (.int .u64 0), (.int .u64 0), (.int .u64 0), (.int .u64 0), (.slice none 0 0)] [(0, 1, (zi 4)), (5, 1, (zt 42))]), zf 44 (.bsl 76 6 2 [(.int .i64 0), (.int .u64 0), (.int .u64 0), (.int .u64 0), (.int .u64 0), (.slice none 0 0), (.int .i64 0), (.int .u64 0), (.int .u64 0), (.int .u64 0), (.int .u64 0), (.slice none 0 0)] [(0, 6, (zt 40)), (6, 6, (zt 43))]), zr 45 (.bld [(.int .i64 0), (.int .u64 0), (.int .u64 0), (.int .u64 0), (.int .u64 0), (.slice none 0 0)] [(0, 1, (zi 2)), (5, 1, (zt 44))]), ze (.st 6 (zt 6) (zt 45))])
  (.seq (.run [zr 47 (.bin .eql (zt 31) (.const (.int .u8 63))), za 46 (zt 47)])
  (.cond (zt 46)
  (.run [zr 48 (.ldn 6 (zt 6)), zr 49 (.bld [(.int .i64 0), (.int .u64 0), (.int .u64 0), (.int .u64 0), (.int .u64 0), (.slice none 0 0)] []), zf 50 (.bsl 76 6 2 [(.int .i64 0), (.int .u64 0), (.int .u64 0), (.int .u64 0), (.int .u64 0), (.slice none 0 0), (.int .i64 0), (.int .u64 0), (.int .u64 0), (.int .u64 0), (.int .u64 0), (.slice none 0 0)] [(0, 6, (zt 48)), (6, 6, (zt 49))]), zr 51 (.bld [(.int .i64 0), (.int .u64 0), (.int .u64 0), (.int .u64 0), (.int .u64 0), (.slice none 0 0)] [(0, 1, (zi 3)), (5, 1, (zt 50))]), ze (.st 6 (zt 6) (zt 51))])
  (.seq (.run [zr 32 (.ldn 6 (zt 6)), ze (.st 6 (zt 4) (zt 32)), za 5 (.const .nilIface)])
  .ret)))))))))
  rc110_0)
def rc110 : RC := (.seq (.run [zf 4 (.al [(.int .i64 0), (.int .u64 0), (.int .u64 0), (.int .u64 0), (.int .u64 0), (.slice none 0 0)] 76), za 5 (.const .nilIface)])
  (.seq (.run [zr 9 (.mv (zt 0)), zr 10 (.mv (zt 1)), zc 11 122 [(zt 9), (zt 10)], zr 8 (.mv (zt 11)), zr 12 (.ext 0 (zt 8)), zr 13 (.ext 1 (zt 8)), zf 6 (.al [(.int .i64 0), (.int .u64 0), (.int .u64 0), (.int .u64 0), (.int .u64 0), (.slice none 0 0)] 76), ze (.st 6 (zt 6) (zt 12)), za 7 (zt 13)])
  (.seq (.seq (.run [zr 14 (.mv (zt 7)), zr 15 (.eq true (.iface []) (zt 14) (.const .nilIface)), zr 16 (.mv (zt 15)), zg 17 16 false (.mv (zt 0)), ⟨(some 18), (some (16, false)), (.c (.fn 86 [(zt 17)])), []⟩, zg 19 16 false (.not (zt 18)), zr 20 (.pick (zt 16) (.const (.bool true)) (zt 19))])
  (.cond (zt 20)
  (.seq (.run [zr 21 (.ldn 6 (zt 6)), zr 22 (.mv (zt 7)), ze (.st 6 (zt 4) (zt 21)), za 5 (zt 22)])
  .ret)
  .skip))
  rc110_1)))
def ce110 : List (Nat × List Nat × List Nat) := [(4, [0, 1, 2, 3, 4, 5, 6, 7, 8], [0, 1, 3, 7, 0, 16, 48, 112, 255])]
def ro110 : List RO := [(.ldn 6 (zt 4)), (.mv (zt 5))]
theorem ok110 : okFn Tryz.prog 110 60 ce110 = some (rc110, ro110) := by kernel_rfl
/-! internal/strconv.lower -/

def rc111 : RC := (.seq (.run [za 2 (.const (.int .u8 0))])
  (.seq (.run [zr 3 (.mv (zt 0)), zr 4 (.bin .or (zt 3) (.const (.int .u8 32))), za 2 (zt 4)])
  .ret))
def ce111 : List (Nat × List Nat × List Nat) := []
def ro111 : List RO := [(.mv (zt 2))]
theorem ok111 : okFn Tryz.prog 111 5 ce111 = some (rc111, ro111) := by kernel_rfl
/-! internal/strconv.underscoreOK -/
def rc112_0 : RC := (.seq (.run [za 3 (.const (.int .i32 95))])
  (.exit 1))
def rc112_1 : RC := (.seq (.seq (.run [zr 90 (.mv (zt 3)), zr 91 (.bin .eql (zt 90) (.const (.int .i32 95)))])
  (.cond (zt 91)
  (.seq (.run [za 2 (.const (.bool false))])
  .ret)
  .skip))
  (.run [za 3 (.const (.int .i32 33))]))
def rc112_2 : RC := (.seq (.seq (.run [zr 84 (.mv (zt 0)), zr 85 (.mv (zt 4)), zr 86 (.ixs (zt 84) (zt 85)), zr 87 (.bin .eql (zt 86) (.const (.int .u8 95)))])
  (.cond (zt 87)
  (.seq (.seq (.run [zr 88 (.mv (zt 3)), zr 89 (.bin .neq (zt 88) (.const (.int .i32 48)))])
  (.cond (zt 89)
  (.seq (.run [za 2 (.const (.bool false))])
  .ret)
  .skip))
  rc112_0)
  .skip))
  rc112_1)
def rc112_3 : RC := (.seq (.block 1 (.seq (.seq (.run [zr 57 (.mv (zt 0)), zr 58 (.mv (zt 4)), zr 59 (.ixs (zt 57) (zt 58)), zr 60 (.bin .leq (.const (.int .u8 48)) (zt 59)), zr 61 (.mv (zt 60)), zg 62 61 true (.mv (zt 0)), zg 63 61 true (.mv (zt 4)), zg 64 61 true (.ixs (zt 62) (zt 63)), zg 65 61 true (.bin .leq (zt 64) (.const (.int .u8 57))), zr 66 (.pick (zt 61) (zt 65) (.const (.bool false))), zr 67 (.mv (zt 66)), zg 68 67 false (.mv (zt 5)), zg 69 67 false (.mv (zt 68)), zg 70 69 true (.mv (zt 0)), zg 71 69 true (.mv (zt 4)), zg 72 69 true (.ixs (zt 70) (zt 71)), ⟨(some 73), (some (69, true)), (.c (.fn 111 [(zt 72)])), []⟩, zg 74 69 true (.bin .leq (.const (.int .u8 97)) (zt 73)), zg 75 67 false (.pick (zt 69) (zt 74) (.const (.bool false))), zg 76 67 false (.mv (zt 75)), zg 77 76 true (.mv (zt 0)), zg 78 76 true (.mv (zt 4)), zg 79 76 true (.ixs (zt 77) (zt 78)), ⟨(some 80), (some (76, true)), (.c (.fn 111 [(zt 79)])), []⟩, zg 81 76 true (.bin .leq (zt 80) (.const (.int .u8 102))), zg 82 67 false (.pick (zt 76) (zt 81) (.const (.bool false))), zr 83 (.pick (zt 67) (.const (.bool true)) (zt 82))])
  (.cond (zt 83)
  (.seq (.run [za 3 (.const (.int .i32 48))])
  (.exit 1))
  .skip))
  rc112_2))
  (.run [zr 55 (.mv (zt 4)), zr 56 (.bin .add (zt 55) (zi 1)), za 4 (zt 56)]))
def rc112_4 : RC := (.seq (.seq (.run [zr 51 (.mv (zt 4)), zr 52 (.mv (zt 0)), zr 53 (.lens (zt 52)), zr 54 (.bin .lss (zt 51) (zt 53))])
  (.cond (zt 54)
  .skip
  (.exit 0)))
  rc112_3)
def rc112_5 : RC := (.seq (.run [zr 92 (.mv (zt 3)), zr 93 (.bin .neq (zt 92) (.const (.int .i32 95))), za 2 (zt 93)])
  .ret)
def rc112_6 : RC := (.seq (.block 0 (.loop rc112_4))
  rc112_5)
def rc112_7 : RC := (.seq (.run [za 5 (.const (.bool false))])
  (.seq (.seq (.run [zr 21 (.mv (zt 0)), zr 22 (.lens (zt 21)), zr 23 (.bin .geq (zt 22) (zi 2)), zr 24 (.mv (zt 23)), zg 25 24 true (.mv (zt 0)), zg 26 24 true (.ixs (zt 25) (zi 0)), zg 27 24 true (.bin .eql (zt 26) (.const (.int .u8 48))), zr 28 (.pick (zt 24) (zt 27) (.const (.bool false))), zr 29 (.mv (zt 28)), zg 30 29 true (.mv (zt 0)), zg 31 29 true (.ixs (zt 30) (zi 1)), ⟨(some 32), (some (29, true)), (.c (.fn 111 [(zt 31)])), []⟩, zg 33 29 true (.bin .eql (zt 32) (.const (.int .u8 98))), zg 34 29 true (.mv (zt 33)), zg 35 34 false (.mv (zt 0)), zg 36 34 false (.ixs (zt 35) (zi 1)), ⟨(some 37), (some (34, false)), (.c (.fn 111 [(zt 36)])), []⟩, zg 38 34 false (.bin .eql (zt 37) (.const (.int .u8 111))), zg 39 29 true (.pick (zt 34) (.const (.bool true)) (zt 38)), zg 40 29 true (.mv (zt 39)), zg 41 40 false (.mv (zt 0)), zg 42 40 false (.ixs (zt 41) (zi 1)), ⟨(some 43), (some (40, false)), (.c (.fn 111 [(zt 42)])), []⟩, zg 44 40 false (.bin .eql (zt 43) (.const (.int .u8 120))), zg 45 29 true (.pick (zt 40) (.const (.bool true)) (zt 44)), zr 46 (.pick (zt 29) (zt 45) (.const (.bool false)))])
  (.cond (zt 46)
  (.seq (.run [za 4 (zi 2)])
  (.seq (.run [za 3 (.const (.int .i32 48))])
  (.run [zr 47 (.mv (zt 0)), zr 48 (.ixs (zt 47) (zi 1)), zc 49 111 [(zt 48)], zr 50 (.bin .eql (zt 49) (.const (.int .u8 120))), za 5 (zt 50)])))
  .skip))
  rc112_6))
def rc112 : RC := (.seq (.run [za 2 (.const (.bool false))])
  (.seq (.run [za 3 (.const (.int .i32 94))])
  (.seq (.run [za 4 (zi 0)])
  (.seq (.seq (.run [zr 6 (.mv (zt 0)), zr 7 (.lens (zt 6)), zr 8 (.bin .geq (zt 7) (zi 1)), zr 9 (.mv (zt 8)), zg 10 9 true (.mv (zt 0)), zg 11 9 true (.ixs (zt 10) (zi 0)), zg 12 9 true (.bin .eql (zt 11) (.const (.int .u8 45))), zg 13 9 true (.mv (zt 12)), zg 14 13 false (.mv (zt 0)), zg 15 13 false (.ixs (zt 14) (zi 0)), zg 16 13 false (.bin .eql (zt 15) (.const (.int .u8 43))), zg 17 9 true (.pick (zt 13) (.const (.bool true)) (zt 16)), zr 18 (.pick (zt 9) (zt 17) (.const (.bool false)))])
  (.cond (zt 18)
  (.run [zr 19 (.mv (zt 0)), zr 20 (.sls (zt 19) (some (zi 1)) none), za 0 (zt 20)])
  .skip))
  rc112_7))))
def ce112 : List (Nat × List Nat × List Nat) := []
def ro112 : List RO := [(.mv (zt 2))]
theorem ok112 : okFn Tryz.prog 112 94 ce112 = some (rc112, ro112) := by kernel_rfl
/-! strconv.syntaxError -/

def rc113 : RC := (.seq (.run [za 4 (.const (.pointer none))])
  (.seq (.run [zr 5 (.mv (zt 0)), zr 6 (.mv (zt 1)), zr 8 (.ld (.global 3)), ⟨(some 7), none, (.c (.fn 123 [(zt 6)])), [(8, none, .ld (.global 3))]⟩, zr 9 (.bld [(.string ⟨#[]⟩), (.string ⟨#[]⟩), .nilIface] [(0, 1, (zt 5)), (1, 1, (zt 7)), (2, 1, (zt 8))]), zf 10 (.bx 218 (zt 9)), za 4 (zt 10)])
  .ret))
def ce113 : List (Nat × List Nat × List Nat) := [(1, [0, 1, 3, 2, 4, 5, 6], [0, 0, 2, 0, 15, 31, 63])]
def ro113 : List RO := [(.mv (zt 4))]
theorem ok113 : okFn Tryz.prog 113 11 ce113 = some (rc113, ro113) := by kernel_rfl
/-! strconv.rangeError -/

def rc114 : RC := (.seq (.run [za 4 (.const (.pointer none))])
  (.seq (.run [zr 5 (.mv (zt 0)), zr 6 (.mv (zt 1)), zr 8 (.ld (.global 4)), ⟨(some 7), none, (.c (.fn 123 [(zt 6)])), [(8, none, .ld (.global 4))]⟩, zr 9 (.bld [(.string ⟨#[]⟩), (.string ⟨#[]⟩), .nilIface] [(0, 1, (zt 5)), (1, 1, (zt 7)), (2, 1, (zt 8))]), zf 10 (.bx 218 (zt 9)), za 4 (zt 10)])
  .ret))
def ce114 : List (Nat × List Nat × List Nat) := [(1, [0, 1, 3, 2, 4, 5, 6], [0, 0, 2, 0, 15, 31, 63])]
def ro114 : List RO := [(.mv (zt 4))]
theorem ok114 : okFn Tryz.prog 114 11 ce114 = some (rc114, ro114) := by kernel_rfl
/-! strconv.baseError -/

def rc115 : RC := (.seq (.run [za 6 (.const (.pointer none))])
  (.seq (.run [zr 7 (.mv (zt 0)), zr 8 (.mv (zt 1)), zc 9 123 [(zt 8)], zr 10 (.mv (zt 2)), zc 11 61 [(zt 10)], zr 12 (.bin .add (.const (.string ⟨#[105, 110, 118, 97, 108, 105, 100, 32, 98, 97, 115, 101, 32]⟩)) (zt 11)), zc 13 124 [(zt 12)], zr 14 (.bld [(.string ⟨#[]⟩), (.string ⟨#[]⟩), .nilIface] [(0, 1, (zt 7)), (1, 1, (zt 9)), (2, 1, (zt 13))]), zf 15 (.bx 218 (zt 14)), za 6 (zt 15)])
  .ret))
def ce115 : List (Nat × List Nat × List Nat) := []
def ro115 : List RO := [(.mv (zt 6))]
theorem ok115 : okFn Tryz.prog 115 16 ce115 = some (rc115, ro115) := by kernel_rfl
/-! strconv.bitSizeError -/

def rc116 : RC := (.seq (.run [za 6 (.const (.pointer none))])
  (.seq (.run [zr 7 (.mv (zt 0)), zr 8 (.mv (zt 1)), zc 9 123 [(zt 8)], zr 10 (.mv (zt 2)), zc 11 61 [(zt 10)], zr 12 (.bin .add (.const (.string ⟨#[105, 110, 118, 97, 108, 105, 100, 32, 98, 105, 116, 32, 115, 105, 122, 101, 32]⟩)) (zt 11)), zc 13 124 [(zt 12)], zr 14 (.bld [(.string ⟨#[]⟩), (.string ⟨#[]⟩), .nilIface] [(0, 1, (zt 7)), (1, 1, (zt 9)), (2, 1, (zt 13))]), zf 15 (.bx 218 (zt 14)), za 6 (zt 15)])
  .ret))
def ce116 : List (Nat × List Nat × List Nat) := []
def ro116 : List RO := [(.mv (zt 6))]
theorem ok116 : okFn Tryz.prog 116 16 ce116 = some (rc116, ro116) := by kernel_rfl
/-! internal/strconv.log10Pow2 -/

def rc117 : RC := (.seq (.run [za 2 (zi 0)])
  (.seq (.run [zr 3 (.mv (zt 0)), zr 4 (.bin .mul (zt 3) (zi 78913)), zr 5 (.bin .shr (zt 4) (.const (.int .u64 18))), za 2 (zt 5)])
  .ret))
def ce117 : List (Nat × List Nat × List Nat) := []
def ro117 : List RO := [(.mv (zt 2))]
theorem ok117 : okFn Tryz.prog 117 6 ce117 = some (rc117, ro117) := by kernel_rfl
/-! math/bits.Len64 -/
def rc118_0 : RC := (.seq (.run [zr 19 (.mv (zt 2)), zr 20 (.mv (zt 0)), zr 21 (.cvi .u8 (zt 20)), zr 22 (.ixs (.const (.string ⟨#[0, 1, 2, 2, 3, 3, 3, 3, 4, 4, 4, 4, 4, 4, 4, 4, 5, 5, 5, 5, 5, 5, 5, 5, 5, 5, 5, 5, 5, 5, 5, 5, 6, 6, 6, 6, 6, 6, 6, 6, 6, 6, 6, 6, 6, 6, 6, 6, 6, 6, 6, 6, 6, 6, 6, 6, 6, 6, 6, 6, 6, 6, 6, 6, 7, 7, 7, 7, 7, 7, 7, 7, 7, 7, 7, 7, 7, 7, 7, 7, 7, 7, 7, 7, 7, 7, 7, 7, 7, 7, 7, 7, 7, 7, 7, 7, 7, 7, 7, 7, 7, 7, 7, 7, 7, 7, 7, 7, 7, 7, 7, 7, 7, 7, 7, 7, 7, 7, 7, 7, 7, 7, 7, 7, 7, 7, 7, 7, 8, 8, 8, 8, 8, 8, 8, 8, 8, 8, 8, 8, 8, 8, 8, 8, 8, 8, 8, 8, 8, 8, 8, 8, 8, 8, 8, 8, 8, 8, 8, 8, 8, 8, 8, 8, 8, 8, 8, 8, 8, 8, 8, 8, 8, 8, 8, 8, 8, 8, 8, 8, 8, 8, 8, 8, 8, 8, 8, 8, 8, 8, 8, 8, 8, 8, 8, 8, 8, 8, 8, 8, 8, 8, 8, 8, 8, 8, 8, 8, 8, 8, 8, 8, 8, 8, 8, 8, 8, 8, 8, 8, 8, 8, 8, 8, 8, 8, 8, 8, 8, 8, 8, 8, 8, 8, 8, 8, 8, 8, 8, 8, 8, 8, 8, 8, 8, 8, 8, 8, 8, 8, 8, 8, 8, 8, 8, 8]⟩)) (zt 21)), zr 23 (.cvi .i64 (zt 22)), zr 24 (.bin .add (zt 19) (zt 23)), za 2 (zt 24)])
  .ret)
def rc118_1 : RC := (.seq (.seq (.run [zr 13 (.mv (zt 0)), zr 14 (.bin .geq (zt 13) (.const (.int .u64 256)))])
  (.cond (zt 14)
  (.seq (.run [zr 15 (.mv (zt 0)), zr 16 (.bin .shr (zt 15) (.const (.int .u64 8))), za 0 (zt 16)])
  (.run [zr 17 (.mv (zt 2)), zr 18 (.bin .add (zt 17) (zi 8)), za 2 (zt 18)]))
  .skip))
  rc118_0)
def rc118_2 : RC := (.seq (.seq (.run [zr 7 (.mv (zt 0)), zr 8 (.bin .geq (zt 7) (.const (.int .u64 65536)))])
  (.cond (zt 8)
  (.seq (.run [zr 9 (.mv (zt 0)), zr 10 (.bin .shr (zt 9) (.const (.int .u64 16))), za 0 (zt 10)])
  (.run [zr 11 (.mv (zt 2)), zr 12 (.bin .add (zt 11) (zi 16)), za 2 (zt 12)]))
  .skip))
  rc118_1)
def rc118 : RC := (.seq (.run [za 2 (zi 0)])
  (.seq (.seq (.run [zr 3 (.mv (zt 0)), zr 4 (.bin .geq (zt 3) (.const (.int .u64 4294967296)))])
  (.cond (zt 4)
  (.seq (.run [zr 5 (.mv (zt 0)), zr 6 (.bin .shr (zt 5) (.const (.int .u64 32))), za 0 (zt 6)])
  (.run [za 2 (zi 32)]))
  .skip))
  rc118_2))
def ce118 : List (Nat × List Nat × List Nat) := []
def ro118 : List RO := [(.mv (zt 2))]
theorem ok118 : okFn Tryz.prog 118 25 ce118 = some (rc118, ro118) := by kernel_rfl
/-! internal/strconv.bool2[int] -/
def rc119_0 : RC := (.seq (.run [za 2 (zi 0)])
  .ret)
def rc119 : RC := (.seq (.run [za 2 (zi 0)])
  (.seq (.seq (.run [zr 3 (.mv (zt 0))])
  (.cond (zt 3)
  (.seq (.run [za 2 (zi 1)])
  .ret)
  .skip))
  rc119_0))
def ce119 : List (Nat × List Nat × List Nat) := []
def ro119 : List RO := [(.mv (zt 2))]
theorem ok119 : okFn Tryz.prog 119 4 ce119 = some (rc119, ro119) := by kernel_rfl
/-! internal/strconv.isPowerOfTwo -/

def rc120 : RC := (.seq (.run [za 2 (.const (.bool false))])
  (.seq (.run [zr 3 (.mv (zt 0)), zr 4 (.mv (zt 0)), zr 5 (.bin .sub (zt 4) (zi 1)), zr 6 (.bin .and (zt 3) (zt 5)), zr 7 (.bin .eql (zt 6) (zi 0)), za 2 (zt 7)])
  .ret))
def ce120 : List (Nat × List Nat × List Nat) := []
def ro120 : List RO := [(.mv (zt 2))]
theorem ok120 : okFn Tryz.prog 120 8 ce120 = some (rc120, ro120) := by kernel_rfl
/-! math/bits.TrailingZeros -/
def rc121_0 : RC := (.seq (.run [zr 6 (.mv (zt 0)), zc 7 126 [(zt 6)], za 2 (zt 7)])
  .ret)
def rc121 : RC := (.seq (.run [za 2 (zi 0)])
  (.seq (.cond (.const (.bool false))
  (.seq (.run [zr 3 (.mv (zt 0)), zr 4 (.cvi .u32 (zt 3)), zc 5 125 [(zt 4)], za 2 (zt 5)])
  .ret)
  .skip)
  rc121_0))
def ce121 : List (Nat × List Nat × List Nat) := []
def ro121 : List RO := [(.mv (zt 2))]
theorem ok121 : okFn Tryz.prog 121 8 ce121 = some (rc121, ro121) := by kernel_rfl
/-! (*lifeline/regex.reader).one -/
def rc122_0 : RC := (.seq (.run [zr 55 (.mv (zt 0)), zr 56 (.nck (zt 55)), zr 57 (.fa 1 (zt 56)), zr 58 (.ld (zt 57)), zr 59 (.bin .add (zt 58) (zi 1)), zr 60 (.nck (zt 55)), zr 61 (.fa 1 (zt 60)), ze (.st 1 (zt 61) (zt 59))])
  (.seq (.run [zr 62 (.ldn 6 (zt 7)), ze (.st 6 (zt 4) (zt 62)), za 5 (.const .nilIface)])
  .ret))
def rc122_1 : RC := (.seq (.seq (.run [zr 51 (.mv (zt 8)), zr 52 (.eq true (.iface []) (zt 51) (.const .nilIface))])
  (.cond (zt 52)
  (.seq (.run [zr 53 (.bld [(.int .i64 0), (.int .u64 0), (.int .u64 0), (.int .u64 0), (.int .u64 0), (.slice none 0 0)] []), zr 54 (.mv (zt 8)), ze (.st 6 (zt 4) (zt 53)), za 5 (zt 54)])
  .ret)
  .skip))
  rc122_0)
def rc122_2 : RC := (.seq (.run [zr 28 (.mv (zt 0)), zr 29 (.nck (zt 28)), zr 30 (.fa 1 (zt 29)), zr 31 (.ld (zt 30)), zr 32 (.bin .add (zt 31) (zi 1)), zr 33 (.nck (zt 28)), zr 34 (.fa 1 (zt 33)), ze (.st 1 (zt 34) (zt 32))])
  (.seq (.run [zr 36 (.mv (zt 0)), zr 37 (.mv (zt 1)), zr 38 (.bin .add (zt 37) (zi 1)), zc 39 85 [(zt 36), (zt 38)], zr 35 (.mv (zt 39)), zr 40 (.ext 0 (zt 35)), zr 41 (.ext 1 (zt 35)), zf 7 (.al [(.int .i64 0), (.int .u64 0), (.int .u64 0), (.int .u64 0), (.int .u64 0), (.slice none 0 0)] 76), ze (.st 6 (zt 7) (zt 40)), za 8 (zt 41)])
  (.seq (.seq (.run [zr 42 (.mv (zt 8)), zr 43 (.eq false (.iface []) (zt 42) (.const .nilIface)), zr 44 (.mv (zt 43)), zg 45 44 true (.mv (zt 0)), ⟨(some 46), (some (44, true)), (.c (.fn 96 [(zt 45), (.const (.int .u8 41))])), []⟩, zg 47 44 true (.not (zt 46)), zr 48 (.pick (zt 44) (zt 47) (.const (.bool false)))])
  (.cond (zt 48)
  (.run [zr 49 (.mv (zt 0)), zc 50 87 [(zt 49)], za 8 (zt 50)])
  .skip))
  rc122_1)))
def rc122_3 : RC := (.cond (zt 81)
  (.seq (.run [zr 86 (.bld [(.int .i64 0), (.int .u64 0), (.int .u64 0), (.int .u64 0), (.int .u64 0), (.slice none 0 0)] []), zr 87 (.mv (zt 0)), zc 88 87 [(zt 87)], ze (.st 6 (zt 4) (zt 86)), za 5 (zt 88)])
  .ret)
  .skip)
def rc122_4 : RC := (.seq (.run [zr 98 (.bld [(.int .u64 0), (.int .u64 0), (.int .u64 0), (.int .u64 0)] []), zr 99 (.mv (zt 9)), zc 100 71 [(zt 98), (zt 99)], zr 101 (.bld [(.int .i64 0), (.int .u64 0), (.int .u64 0), (.int .u64 0), (.int .u64 0), (.slice none 0 0)] [(0, 1, (zi 1)), (1, 4, (zt 100))]), ze (.st 6 (zt 4) (zt 101)), za 5 (.const .nilIface)])
  .ret)
def rc122_5 : RC := (.seq (.run [zr 90 (.mv (zt 0)), zc 91 128 [(zt 90)], zr 89 (.mv (zt 91)), zr 92 (.ext 0 (zt 89)), zr 93 (.ext 1 (zt 89)), za 9 (zt 92), za 10 (zt 93)])
  (.seq (.seq (.run [zr 94 (.mv (zt 10)), zr 95 (.eq true (.iface []) (zt 94) (.const .nilIface))])
  (.cond (zt 95)
  (.seq (.run [zr 96 (.bld [(.int .i64 0), (.int .u64 0), (.int .u64 0), (.int .u64 0), (.int .u64 0), (.slice none 0 0)] []), zr 97 (.mv (zt 10)), ze (.st 6 (zt 4) (zt 96)), za 5 (zt 97)])
  .ret)
  .skip))
  rc122_4))
def rc122 : RC := (.seq (.run [zf 4 (.al [(.int .i64 0), (.int .u64 0), (.int .u64 0), (.int .u64 0), (.int .u64 0), (.slice none 0 0)] 76), za 5 (.const .nilIface)])
  (.seq (.seq (.run [zr 11 (.mv (zt 0)), zr 12 (.nck (zt 11)), zr 13 (.fa 0 (zt 12)), zr 14 (.ld (zt 13)), zr 15 (.mv (zt 0)), zr 16 (.nck (zt 15)), zr 17 (.fa 1 (zt 16)), zr 18 (.ld (zt 17)), zr 19 (.ixs (zt 14) (zt 18)), za 6 (zt 19)])
  (.seq (.run [zr 20 (.mv (zt 6))])
  (.block 0 (.seq (.run [zr 22 (.bin .eql (zt 20) (.const (.int .u8 40))), za 21 (zt 22)])
  (.cond (zt 21)
  (.seq (.seq (.run [zr 23 (.mv (zt 1)), zr 24 (.bin .eql (zt 23) (zi 6))])
  (.cond (zt 24)
  (.seq (.run [zr 25 (.bld [(.int .i64 0), (.int .u64 0), (.int .u64 0), (.int .u64 0), (.int .u64 0), (.slice none 0 0)] []), zr 26 (.mv (zt 0)), zc 27 87 [(zt 26)], ze (.st 6 (zt 4) (zt 25)), za 5 (zt 27)])
  .ret)
  .skip))
  rc122_2)
  (.seq (.run [zr 64 (.bin .eql (zt 20) (.const (.int .u8 91))), za 63 (zt 64)])
  (.cond (zt 63)
  (.seq (.run [zr 65 (.mv (zt 0)), zc 66 127 [(zt 65)], zr 67 (.ext 0 (zt 66)), zr 68 (.ext 1 (zt 66)), ze (.st 6 (zt 4) (zt 67)), za 5 (zt 68)])
  .ret)
  (.seq (.run [zr 70 (.bin .eql (zt 20) (.const (.int .u8 46))), za 69 (zt 70)])
  (.cond (zt 69)
  (.seq (.run [zr 71 (.mv (zt 0)), zr 72 (.nck (zt 71)), zr 73 (.fa 1 (zt 72)), zr 74 (.ld (zt 73)), zr 75 (.bin .add (zt 74) (zi 1)), zr 76 (.nck (zt 71)), zr 77 (.fa 1 (zt 76)), ze (.st 1 (zt 77) (zt 75))])
  (.seq (.run [zr 78 (.bld [(.int .u64 0), (.int .u64 0), (.int .u64 0), (.int .u64 0)] []), zc 79 70 [(zt 78)], zr 80 (.bld [(.int .i64 0), (.int .u64 0), (.int .u64 0), (.int .u64 0), (.int .u64 0), (.slice none 0 0)] [(0, 1, (zi 1)), (1, 4, (zt 79))]), ze (.st 6 (zt 4) (zt 80)), za 5 (.const .nilIface)])
  .ret))
  (.seq (.seq (.run [zr 82 (.bin .eql (zt 20) (.const (.int .u8 42))), za 81 (zt 82)])
  (.cond (zt 81)
  .skip
  (.seq (.run [zr 83 (.bin .eql (zt 20) (.const (.int .u8 43))), za 81 (zt 83)])
  (.cond (zt 81)
  .skip
  (.seq (.run [zr 84 (.bin .eql (zt 20) (.const (.int .u8 63))), za 81 (zt 84)])
  (.cond (zt 81)
  .skip
  (.run [zr 85 (.bin .eql (zt 20) (.const (.int .u8 93))), za 81 (zt 85)])))))))
  rc122_3))))))))))
  rc122_5))
def ce122 : List (Nat × List Nat × List Nat) := [(1, [0, 1, 2, 3, 4, 5, 6, 7, 8, 9], [0, 1, 3, 7, 0, 16, 48, 112, 255, 511])]
def ro122 : List RO := [(.ldn 6 (zt 4)), (.mv (zt 5))]
theorem ok122 : okFn Tryz.prog 122 102 ce122 = some (rc122, ro122) := by kernel_rfl
/-! internal/stringslite.Clone -/
def rc123_0 : RC := (.seq (.run [zr 7 (.mv (zt 0)), zr 8 (.lens (zt 7)), zf 9 (.mks 5 1 (.int .u8 0) (zt 8) (zt 8)), za 3 (zt 9)])
  (.seq (.run [zr 10 (.mv (zt 3)), zr 11 (.mv (zt 0)), zf 12 (.cpy 1 (zt 10) (zt 11))])
  (.seq (.run [zr 13 (.mv (zt 3)), zr 14 (.ia 1 (zt 13) (zi 0)), zr 15 (.mv (zt 3)), zr 16 (.lenl (zt 15)), zf 17 (.ust 5 (zt 14) (zt 16)), za 2 (zt 17)])
  .ret)))
def rc123 : RC := (.seq (.run [za 2 (.const (.string ⟨#[]⟩))])
  (.seq (.seq (.run [zr 4 (.mv (zt 0)), zr 5 (.lens (zt 4)), zr 6 (.bin .eql (zt 5) (zi 0))])
  (.cond (zt 6)
  (.seq (.run [za 2 (.const (.string ⟨#[]⟩))])
  .ret)
  .skip))
  rc123_0))
def ce123 : List (Nat × List Nat × List Nat) := []
def ro123 : List RO := [(.mv (zt 2))]
theorem ok123 : okFn Tryz.prog 123 18 ce123 = some (rc123, ro123) := by kernel_rfl
/-! errors.New -/

def rc124 : RC := (.seq (.run [za 2 (.const .nilIface)])
  (.seq (.run [zr 3 (.mv (zt 0)), zr 4 (.bld [(.string ⟨#[]⟩)] [(0, 1, (zt 3))]), zf 5 (.bx 226 (zt 4)), zr 6 (.mki 224 (zt 5)), za 2 (zt 6)])
  .ret))
def ce124 : List (Nat × List Nat × List Nat) := []
def ro124 : List RO := [(.mv (zt 2))]
theorem ok124 : okFn Tryz.prog 124 7 ce124 = some (rc124, ro124) := by kernel_rfl
/-! math/bits.TrailingZeros32 -/
def rc125_0 : RC := (.seq (.run [zr 5 (.mv (zt 0)), zr 6 (.mv (zt 0)), zr 7 (.neg (zt 6)), zr 8 (.bin .and (zt 5) (zt 7)), zr 9 (.bin .mul (zt 8) (.const (.int .u32 125613361))), zr 10 (.bin .shr (zt 9) (.const (.int .u64 27))), zr 11 (.iaa 32 1 (.global 5) (zt 10)), zr 12 (.ld (zt 11)), zr 13 (.cvi .i64 (zt 12)), za 2 (zt 13)])
  .ret)
def rc125 : RC := (.seq (.run [za 2 (zi 0)])
  (.seq (.seq (.run [zr 3 (.mv (zt 0)), zr 4 (.bin .eql (zt 3) (.const (.int .u32 0)))])
  (.cond (zt 4)
  (.seq (.run [za 2 (zi 32)])
  .ret)
  .skip))
  rc125_0))
def ce125 : List (Nat × List Nat × List Nat) := []
def ro125 : List RO := [(.mv (zt 2))]
theorem ok125 : okFn Tryz.prog 125 14 ce125 = some (rc125, ro125) := by kernel_rfl
/-! math/bits.TrailingZeros64 -/
def rc126_0 : RC := (.seq (.run [zr 5 (.mv (zt 0)), zr 6 (.mv (zt 0)), zr 7 (.neg (zt 6)), zr 8 (.bin .and (zt 5) (zt 7)), zr 9 (.bin .mul (zt 8) (.const (.int .u64 285870213051353865))), zr 10 (.bin .shr (zt 9) (.const (.int .u64 58))), zr 11 (.iaa 64 1 (.global 6) (zt 10)), zr 12 (.ld (zt 11)), zr 13 (.cvi .i64 (zt 12)), za 2 (zt 13)])
  .ret)
def rc126 : RC := (.seq (.run [za 2 (zi 0)])
  (.seq (.seq (.run [zr 3 (.mv (zt 0)), zr 4 (.bin .eql (zt 3) (.const (.int .u64 0)))])
  (.cond (zt 4)
  (.seq (.run [za 2 (zi 64)])
  .ret)
  .skip))
  rc126_0))
def ce126 : List (Nat × List Nat × List Nat) := []
def ro126 : List RO := [(.mv (zt 2))]
theorem ok126 : okFn Tryz.prog 126 14 ce126 = some (rc126, ro126) := by kernel_rfl
/-! (*lifeline/regex.reader).class -/
def rc127_0 : RC := (.seq (.block 3 (.run [zr 91 (.ldn 4 (zt 6)), zr 92 (.mv (zt 10)), zr 93 (.cvi .u8 (zt 92)), zc 94 71 [(zt 91), (zt 93)], ze (.st 4 (zt 6) (zt 94))]))
  (.run [zr 89 (.mv (zt 10)), zr 90 (.bin .add (zt 89) (zi 1)), za 10 (zt 90)]))
def rc127_1 : RC := (.seq (.seq (.run [zr 85 (.mv (zt 10)), zr 86 (.mv (zt 9)), zr 87 (.cvi .i64 (zt 86)), zr 88 (.bin .leq (zt 85) (zt 87))])
  (.cond (zt 88)
  .skip
  (.exit 2)))
  rc127_0)
def rc127_2 : RC := (.seq (.run [zr 83 (.mv (zt 7)), zr 84 (.cvi .i64 (zt 83)), za 10 (zt 84)])
  (.block 2 (.loop rc127_1)))
def rc127_3 : RC := (.seq (.run [zr 45 (.mv (zt 7)), za 9 (zt 45)])
  (.seq (.seq (.run [zr 46 (.mv (zt 0)), zc 47 96 [(zt 46), (.const (.int .u8 45))], zr 48 (.mv (zt 47)), zg 49 48 true (.mv (zt 0)), zg 50 48 true (.nck (zt 49)), zg 51 48 true (.fa 0 (zt 50)), zg 52 48 true (.ld (zt 51)), zg 53 48 true (.mv (zt 0)), zg 54 48 true (.nck (zt 53)), zg 55 48 true (.fa 1 (zt 54)), zg 56 48 true (.ld (zt 55)), zg 57 48 true (.sls (zt 52) (some (zt 56)) none), ⟨(some 58), (some (48, true)), (.c (.fn 89 [(zt 57), (.const (.string ⟨#[45, 93]⟩))])), []⟩, zg 59 48 true (.not (zt 58)), zr 60 (.pick (zt 48) (zt 59) (.const (.bool false)))])
  (.cond (zt 60)
  (.seq (.run [zr 61 (.mv (zt 0)), zr 62 (.nck (zt 61)), zr 63 (.fa 1 (zt 62)), zr 64 (.ld (zt 63)), zr 65 (.bin .add (zt 64) (zi 1)), zr 66 (.nck (zt 61)), zr 67 (.fa 1 (zt 66)), ze (.st 1 (zt 67) (zt 65))])
  (.seq (.run [zr 69 (.mv (zt 0)), zc 70 128 [(zt 69)], zr 68 (.mv (zt 70)), zr 71 (.ext 0 (zt 68)), zr 72 (.ext 1 (zt 68)), za 9 (zt 71), za 8 (zt 72)])
  (.seq (.run [zr 73 (.mv (zt 8)), zr 74 (.eq true (.iface []) (zt 73) (.const .nilIface)), zr 75 (.mv (zt 74)), zg 76 75 false (.mv (zt 9)), zg 77 75 false (.mv (zt 7)), zg 78 75 false (.bin .lss (zt 76) (zt 77)), zr 79 (.pick (zt 75) (.const (.bool true)) (zt 78))])
  (.cond (zt 79)
  (.seq (.run [zr 80 (.bld [(.int .i64 0), (.int .u64 0), (.int .u64 0), (.int .u64 0), (.int .u64 0), (.slice none 0 0)] []), zr 81 (.mv (zt 4)), zc 82 47 [(zi 8), (zt 81)], ze (.st 6 (zt 2) (zt 80)), za 3 (zt 82)])
  .ret)
  .skip))))
  .skip))
  rc127_2))
def rc127_4 : RC := (.block 1 (.seq (.run [zr 36 (.mv (zt 0)), zc 37 128 [(zt 36)], zr 35 (.mv (zt 37)), zr 38 (.ext 0 (zt 35)), zr 39 (.ext 1 (zt 35)), za 7 (zt 38), za 8 (zt 39)])
  (.seq (.seq (.run [zr 40 (.mv (zt 8)), zr 41 (.eq true (.iface []) (zt 40) (.const .nilIface))])
  (.cond (zt 41)
  (.seq (.run [zr 42 (.bld [(.int .i64 0), (.int .u64 0), (.int .u64 0), (.int .u64 0), (.int .u64 0), (.slice none 0 0)] []), zr 43 (.mv (zt 4)), zc 44 47 [(zi 8), (zt 43)], ze (.st 6 (zt 2) (zt 42)), za 3 (zt 44)])
  .ret)
  .skip))
  rc127_3)))
def rc127_5 : RC := (.seq (.seq (.run [zr 32 (.mv (zt 0)), zc 33 96 [(zt 32), (.const (.int .u8 93))], zr 34 (.not (zt 33))])
  (.cond (zt 34)
  .skip
  (.exit 0)))
  rc127_4)
def rc127_6 : RC := (.seq (.run [zr 105 (.ldn 4 (zt 6)), zr 106 (.bld [(.int .i64 0), (.int .u64 0), (.int .u64 0), (.int .u64 0), (.int .u64 0), (.slice none 0 0)] [(0, 1, (zi 1)), (1, 4, (zt 105))]), ze (.st 6 (zt 2) (zt 106)), za 3 (.const .nilIface)])
  .ret)
def rc127_7 : RC := (.seq (.run [zr 95 (.mv (zt 0)), zr 96 (.nck (zt 95)), zr 97 (.fa 1 (zt 96)), zr 98 (.ld (zt 97)), zr 99 (.bin .add (zt 98) (zi 1)), zr 100 (.nck (zt 95)), zr 101 (.fa 1 (zt 100)), ze (.st 1 (zt 101) (zt 99))])
  (.seq (.seq (.run [zr 102 (.mv (zt 5))])
  (.cond (zt 102)
  (.run [zr 103 (.ldn 4 (zt 6)), zc 104 70 [(zt 103)], ze (.st 4 (zt 6) (zt 104))])
  .skip))
  rc127_6))
def rc127_8 : RC := (.seq (.run [zf 6 (.al [(.int .u64 0), (.int .u64 0), (.int .u64 0), (.int .u64 0)] 73)])
  (.seq (.block 0 (.loop rc127_5))
  rc127_7))
def rc127 : RC := (.seq (.run [zf 2 (.al [(.int .i64 0), (.int .u64 0), (.int .u64 0), (.int .u64 0), (.int .u64 0), (.slice none 0 0)] 76), za 3 (.const .nilIface)])
  (.seq (.run [zr 11 (.mv (zt 0)), zr 12 (.nck (zt 11)), zr 13 (.fa 1 (zt 12)), zr 14 (.ld (zt 13)), za 4 (zt 14)])
  (.seq (.run [zr 15 (.mv (zt 0)), zr 16 (.nck (zt 15)), zr 17 (.fa 1 (zt 16)), zr 18 (.ld (zt 17)), zr 19 (.bin .add (zt 18) (zi 1)), zr 20 (.nck (zt 15)), zr 21 (.fa 1 (zt 20)), ze (.st 1 (zt 21) (zt 19))])
  (.seq (.run [zr 22 (.mv (zt 0)), zc 23 96 [(zt 22), (.const (.int .u8 94))], za 5 (zt 23)])
  (.seq (.seq (.run [zr 24 (.mv (zt 5))])
  (.cond (zt 24)
  (.run [zr 25 (.mv (zt 0)), zr 26 (.nck (zt 25)), zr 27 (.fa 1 (zt 26)), zr 28 (.ld (zt 27)), zr 29 (.bin .add (zt 28) (zi 1)), zr 30 (.nck (zt 25)), zr 31 (.fa 1 (zt 30)), ze (.st 1 (zt 31) (zt 29))])
  .skip))
  rc127_8)))))
def ce127 : List (Nat × List Nat × List Nat) := [(12, [0, 1, 2, 3, 4, 5, 6, 7, 8, 9, 10, 11, 12, 13, 14], [0, 1, 3, 7, 15, 31, 63, 7, 135, 391, 903, 2047, 4095, 8191, 16383])]
def ro127 : List RO := [(.ldn 6 (zt 2)), (.mv (zt 3))]
theorem ok127 : okFn Tryz.prog 127 107 ce127 = some (rc127, ro127) := by kernel_rfl
/-! (*lifeline/regex.reader).plain -/
def rc128_0 : RC := (.seq (.run [zr 34 (.mv (zt 0)), zr 35 (.nck (zt 34)), zr 36 (.fa 1 (zt 35)), zr 37 (.ld (zt 36)), zr 38 (.bin .add (zt 37) (zi 1)), zr 39 (.nck (zt 34)), zr 40 (.fa 1 (zt 39)), ze (.st 1 (zt 40) (zt 38))])
  (.run [zr 41 (.mv (zt 0)), zr 42 (.nck (zt 41)), zr 43 (.fa 0 (zt 42)), zr 44 (.ld (zt 43)), zr 45 (.mv (zt 0)), zr 46 (.nck (zt 45)), zr 47 (.fa 1 (zt 46)), zr 48 (.ld (zt 47)), zr 49 (.ixs (zt 44) (zt 48)), za 4 (zt 49)]))
def rc128_1 : RC := (.seq (.run [zr 50 (.mv (zt 0)), zr 51 (.nck (zt 50)), zr 52 (.fa 1 (zt 51)), zr 53 (.ld (zt 52)), zr 54 (.bin .add (zt 53) (zi 1)), zr 55 (.nck (zt 50)), zr 56 (.fa 1 (zt 55)), ze (.st 1 (zt 56) (zt 54))])
  (.seq (.run [zr 57 (.mv (zt 4)), za 2 (zt 57), za 3 (.const .nilIface)])
  .ret))
def rc128_2 : RC := (.seq (.run [zr 10 (.mv (zt 0)), zr 11 (.nck (zt 10)), zr 12 (.fa 0 (zt 11)), zr 13 (.ld (zt 12)), zr 14 (.mv (zt 0)), zr 15 (.nck (zt 14)), zr 16 (.fa 1 (zt 15)), zr 17 (.ld (zt 16)), zr 18 (.ixs (zt 13) (zt 17)), za 4 (zt 18)])
  (.seq (.seq (.run [zr 19 (.mv (zt 4)), zr 20 (.bin .eql (zt 19) (.const (.int .u8 92)))])
  (.cond (zt 20)
  (.seq (.seq (.run [zr 21 (.mv (zt 0)), zr 22 (.nck (zt 21)), zr 23 (.fa 1 (zt 22)), zr 24 (.ld (zt 23)), zr 25 (.bin .add (zt 24) (zi 1)), zr 26 (.mv (zt 0)), zr 27 (.nck (zt 26)), zr 28 (.fa 0 (zt 27)), zr 29 (.ld (zt 28)), zr 30 (.lens (zt 29)), zr 31 (.bin .eql (zt 25) (zt 30))])
  (.cond (zt 31)
  (.seq (.run [zr 32 (.mv (zt 0)), zc 33 87 [(zt 32)], za 2 (.const (.int .u8 0)), za 3 (zt 33)])
  .ret)
  .skip))
  rc128_0)
  .skip))
  rc128_1))
def rc128 : RC := (.seq (.run [za 2 (.const (.int .u8 0)), za 3 (.const .nilIface)])
  (.seq (.seq (.run [zr 5 (.mv (zt 0)), zc 6 86 [(zt 5)], zr 7 (.not (zt 6))])
  (.cond (zt 7)
  (.seq (.run [zr 8 (.mv (zt 0)), zc 9 87 [(zt 8)], za 2 (.const (.int .u8 0)), za 3 (zt 9)])
  .ret)
  .skip))
  rc128_2))
def ce128 : List (Nat × List Nat × List Nat) := [(3, [0, 1, 2, 3, 4, 5, 6, 7, 8, 9], [0, 1, 3, 7, 0, 16, 48, 112, 255, 511]), (5, [0, 1, 2, 3, 4, 5, 6, 7, 8, 9, 10], [0, 1, 3, 7, 15, 0, 32, 96, 224, 480, 1023]), (8, [0, 1, 2, 3, 4, 5, 6, 7, 8, 9], [0, 1, 3, 7, 0, 16, 48, 112, 255, 511])]
def ro128 : List RO := [(.mv (zt 2)), (.mv (zt 3))]
theorem ok128 : okFn Tryz.prog 128 58 ce128 = some (rc128, ro128) := by kernel_rfl
/-! (lifeline/api.Fault).Unwrap -/

def rc148 : RC := (.seq (.run [zf 1 (.bx 92 (zt 0)), za 2 (.const .nilIface)])
  (.seq (.run [zr 3 (.fa 0 (zt 1)), zr 4 (.ld (zt 3)), zr 5 (.mki 39 (zt 4)), za 2 (zt 5)])
  .ret))
def ce148 : List (Nat × List Nat × List Nat) := []
def ro148 : List RO := [(.mv (zt 2))]
theorem ok148 : okFn Tryz.prog 148 6 ce148 = some (rc148, ro148) := by kernel_rfl
/-! (*strconv.NumError).Unwrap -/

def rc167 : RC := (.seq (.run [za 2 (.const .nilIface)])
  (.seq (.run [zr 3 (.mv (zt 0)), zr 4 (.nck (zt 3)), zr 5 (.fa 2 (zt 4)), zr 6 (.ld (zt 5)), za 2 (zt 6)])
  .ret))
def ce167 : List (Nat × List Nat × List Nat) := []
def ro167 : List RO := [(.mv (zt 2))]
theorem ok167 : okFn Tryz.prog 167 7 ce167 = some (rc167, ro167) := by kernel_rfl
/-! gosem.cut.vars -/

def rc178 : RC := (.seq (.run [zr 0 (.bld [(.int .u8 0), (.int .u8 0), (.int .u8 0), (.int .u8 0), (.int .u8 0), (.int .u8 0), (.int .u8 0), (.int .u8 0), (.int .u8 0), (.int .u8 0), (.int .u8 0), (.int .u8 0), (.int .u8 0), (.int .u8 0), (.int .u8 0), (.int .u8 0), (.int .u8 0), (.int .u8 0), (.int .u8 0), (.int .u8 0), (.int .u8 0), (.int .u8 0), (.int .u8 0), (.int .u8 0), (.int .u8 0), (.int .u8 0), (.int .u8 0), (.int .u8 0), (.int .u8 0), (.int .u8 0), (.int .u8 0), (.int .u8 0)] [(0, 1, (.const (.int .u8 0))), (1, 1, (.const (.int .u8 1))), (2, 1, (.const (.int .u8 28))), (3, 1, (.const (.int .u8 2))), (4, 1, (.const (.int .u8 29))), (5, 1, (.const (.int .u8 14))), (6, 1, (.const (.int .u8 24))), (7, 1, (.const (.int .u8 3))), (8, 1, (.const (.int .u8 30))), (9, 1, (.const (.int .u8 22))), (10, 1, (.const (.int .u8 20))), (11, 1, (.const (.int .u8 15))), (12, 1, (.const (.int .u8 25))), (13, 1, (.const (.int .u8 17))), (14, 1, (.const (.int .u8 4))), (15, 1, (.const (.int .u8 8))), (16, 1, (.const (.int .u8 31))), (17, 1, (.const (.int .u8 27))), (18, 1, (.const (.int .u8 13))), (19, 1, (.const (.int .u8 23))), (20, 1, (.const (.int .u8 21))), (21, 1, (.const (.int .u8 19))), (22, 1, (.const (.int .u8 16))), (23, 1, (.const (.int .u8 7))), (24, 1, (.const (.int .u8 26))), (25, 1, (.const (.int .u8 12))), (26, 1, (.const (.int .u8 18))), (27, 1, (.const (.int .u8 6))), (28, 1, (.const (.int .u8 11))), (29, 1, (.const (.int .u8 5))), (30, 1, (.const (.int .u8 10))), (31, 1, (.const (.int .u8 9)))]), ze (.st 32 (.global 5) (zt 0))])
  (.seq (.run [zr 1 (.bld [(.int .u8 0), (.int .u8 0), (.int .u8 0), (.int .u8 0), (.int .u8 0), (.int .u8 0), (.int .u8 0), (.int .u8 0), (.int .u8 0), (.int .u8 0), (.int .u8 0), (.int .u8 0), (.int .u8 0), (.int .u8 0), (.int .u8 0), (.int .u8 0), (.int .u8 0), (.int .u8 0), (.int .u8 0), (.int .u8 0), (.int .u8 0), (.int .u8 0), (.int .u8 0), (.int .u8 0), (.int .u8 0), (.int .u8 0), (.int .u8 0), (.int .u8 0), (.int .u8 0), (.int .u8 0), (.int .u8 0), (.int .u8 0), (.int .u8 0), (.int .u8 0), (.int .u8 0), (.int .u8 0), (.int .u8 0), (.int .u8 0), (.int .u8 0), (.int .u8 0), (.int .u8 0), (.int .u8 0), (.int .u8 0), (.int .u8 0), (.int .u8 0), (.int .u8 0), (.int .u8 0), (.int .u8 0), (.int .u8 0), (.int .u8 0), (.int .u8 0), (.int .u8 0), (.int .u8 0), (.int .u8 0), (.int .u8 0), (.int .u8 0), (.int .u8 0), (.int .u8 0), (.int .u8 0), (.int .u8 0), (.int .u8 0), (.int .u8 0), (.int .u8 0), (.int .u8 0)] [(0, 1, (.const (.int .u8 0))), (1, 1, (.const (.int .u8 1))), (2, 1, (.const (.int .u8 56))), (3, 1, (.const (.int .u8 2))), (4, 1, (.const (.int .u8 57))), (5, 1, (.const (.int .u8 49))), (6, 1, (.const (.int .u8 28))), (7, 1, (.const (.int .u8 3))), (8, 1, (.const (.int .u8 61))), (9, 1, (.const (.int .u8 58))), (10, 1, (.const (.int .u8 42))), (11, 1, (.const (.int .u8 50))), (12, 1, (.const (.int .u8 38))), (13, 1, (.const (.int .u8 29))), (14, 1, (.const (.int .u8 17))), (15, 1, (.const (.int .u8 4))), (16, 1, (.const (.int .u8 62))), (17, 1, (.const (.int .u8 47))), (18, 1, (.const (.int .u8 59))), (19, 1, (.const (.int .u8 36))), (20, 1, (.const (.int .u8 45))), (21, 1, (.const (.int .u8 43))), (22, 1, (.const (.int .u8 51))), (23, 1, (.const (.int .u8 22))), (24, 1, (.const (.int .u8 53))), (25, 1, (.const (.int .u8 39))), (26, 1, (.const (.int .u8 33))), (27, 1, (.const (.int .u8 30))), (28, 1, (.const (.int .u8 24))), (29, 1, (.const (.int .u8 18))), (30, 1, (.const (.int .u8 12))), (31, 1, (.const (.int .u8 5))), (32, 1, (.const (.int .u8 63))), (33, 1, (.const (.int .u8 55))), (34, 1, (.const (.int .u8 48))), (35, 1, (.const (.int .u8 27))), (36, 1, (.const (.int .u8 60))), (37, 1, (.const (.int .u8 41))), (38, 1, (.const (.int .u8 37))), (39, 1, (.const (.int .u8 16))), (40, 1, (.const (.int .u8 46))), (41, 1, (.const (.int .u8 35))), (42, 1, (.const (.int .u8 44))), (43, 1, (.const (.int .u8 21))), (44, 1, (.const (.int .u8 52))), (45, 1, (.const (.int .u8 32))), (46, 1, (.const (.int .u8 23))), (47, 1, (.const (.int .u8 11))), (48, 1, (.const (.int .u8 54))), (49, 1, (.const (.int .u8 26))), (50, 1, (.const (.int .u8 40))), (51, 1, (.const (.int .u8 15))), (52, 1, (.const (.int .u8 34))), (53, 1, (.const (.int .u8 20))), (54, 1, (.const (.int .u8 31))), (55, 1, (.const (.int .u8 10))), (56, 1, (.const (.int .u8 25))), (57, 1, (.const (.int .u8 14))), (58, 1, (.const (.int .u8 19))), (59, 1, (.const (.int .u8 9))), (60, 1, (.const (.int .u8 13))), (61, 1, (.const (.int .u8 8))), (62, 1, (.const (.int .u8 7))), (63, 1, (.const (.int .u8 6)))]), ze (.st 64 (.global 6) (zt 1))])
  (.seq (.run [zr 2 (.bld [(.int .u64 0), (.int .u64 0), (.int .u64 0), (.int .u64 0), (.int .u64 0), (.int .u64 0), (.int .u64 0), (.int .u64 0), (.int .u64 0), (.int .u64 0), (.int .u64 0), (.int .u64 0), (.int .u64 0), (.int .u64 0), (.int .u64 0), (.int .u64 0), (.int .u64 0), (.int .u64 0), (.int .u64 0), (.int .u64 0)] [(0, 1, (.const (.int .u64 1))), (1, 1, (.const (.int .u64 10))), (2, 1, (.const (.int .u64 100))), (3, 1, (.const (.int .u64 1000))), (4, 1, (.const (.int .u64 10000))), (5, 1, (.const (.int .u64 100000))), (6, 1, (.const (.int .u64 1000000))), (7, 1, (.const (.int .u64 10000000))), (8, 1, (.const (.int .u64 100000000))), (9, 1, (.const (.int .u64 1000000000))), (10, 1, (.const (.int .u64 10000000000))), (11, 1, (.const (.int .u64 100000000000))), (12, 1, (.const (.int .u64 1000000000000))), (13, 1, (.const (.int .u64 10000000000000))), (14, 1, (.const (.int .u64 100000000000000))), (15, 1, (.const (.int .u64 1000000000000000))), (16, 1, (.const (.int .u64 10000000000000000))), (17, 1, (.const (.int .u64 100000000000000000))), (18, 1, (.const (.int .u64 1000000000000000000))), (19, 1, (.const (.int .u64 10000000000000000000)))]), ze (.st 20 (.global 2) (zt 2))])
  (.seq (.run [zr 3 (.mki 254 (.const (.pointer none))), zc 4 78 [(zt 3)], ⟨(some 5), none, (.c (.inv (zt 4) "Elem" [])), []⟩, ze (.st 1 (.global 0) (zt 5))])
  (.seq (.run [zc 6 124 [(.const (.string ⟨#[118, 97, 108, 117, 101, 32, 111, 117, 116, 32, 111, 102, 32, 114, 97, 110, 103, 101]⟩))], ze (.st 1 (.global 4) (zt 6))])
  (.run [zc 7 124 [(.const (.string ⟨#[105, 110, 118, 97, 108, 105, 100, 32, 115, 121, 110, 116, 97, 120]⟩))], ze (.st 1 (.global 3) (zt 7))]))))))
def ce178 : List (Nat × List Nat × List Nat) := []
def ro178 : List RO := []
theorem ok178 : okFn Tryz.prog 178 8 ce178 = some (rc178, ro178) := by kernel_rfl
end Go.Proofs.YtjlicambfepfiaaGreatDoor.Ab
