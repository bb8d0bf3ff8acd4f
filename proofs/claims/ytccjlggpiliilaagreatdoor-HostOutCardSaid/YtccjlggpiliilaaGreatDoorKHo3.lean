/- Parts of a proof, put together: The resolved codes of the functions that are walked, and that the program has them. -/
import Derived.Test.YtccjlggpiliilaaGreatDoorKHo2
import Derived.Test.YtccjlggpiliilaaGreatDoorProg
import Derived.KernelRfl
set_option maxHeartbeats 4000000
namespace Go.Proofs.YtccjlggpiliilaaGreatDoor.Ab
open Go Go.RowKit
abbrev zt (n : Nat) : Operand := .tmp n
abbrev zi (n : Int) : Operand := .const (.int .i64 n)
abbrev zr (n : Nat) (x : RO) : Sp := ⟨some n,none,.r x,[]⟩
abbrev za (n : Nat) (x : Operand) : Sp := ⟨some n,none,.a x,[]⟩
abbrev zf (n : Nat) (x : EO) : Sp := ⟨some n,none,.e x,[]⟩
abbrev ze (x : EO) : Sp := ⟨none,none,.e x,[]⟩
abbrev zg (n c : Nat) (b : Bool) (x : RO) : Sp := ⟨some n,some (c,b),.r x,[]⟩
abbrev zc (n f : Nat) (l : List Operand) : Sp := ⟨some n,none,.c (.fn f l),[]⟩
def rc4_0 : RC := (.seq (.block 1 (.seq (.run [zr 43 (.mv (zt 11)),zc 44 15 [(zt 43)]])
  (.seq (.run [zr 45 (.mv (zt 12)),zc 46 15 [(zt 45)]])
  (.seq (.run [zr 47 (.mv (zt 13)),zr 48 (.mv (zt 11)),zc 49 16 [(zt 48)],zr 50 (.b2s (zt 49)),zr 51 (.bin .add (zt 47) (zt 50)),za 13 (zt 51)])
  (.seq (.run [zr 52 (.mv (zt 11)),zc 53 16 [(zt 52)],zr 54 (.lenl (zt 53)),zr 55 (.bin .neq (zt 54) (zi 0))])
  (.cond (zt 55)
  (.seq (.run [za 8 (.const (.bool false))])
  .ret)
  .skip))))))
  (.run [zr 41 (.mv (zt 14)),zr 42 (.bin .add (zt 41) (zi 1)),za 14 (zt 42)]))
def rc4_1 : RC := (.seq (.seq (.run [zr 36 (.mv (zt 14)),zr 37 (.mv (zt 3)),zr 38 (.bin .rem (zt 37) (.const (.int .u8 60))),zr 39 (.cvi .i64 (zt 38)),zr 40 (.bin .lss (zt 36) (zt 39))])
  (.cond (zt 40)
  .skip
  (.exit 0)))
  rc4_0)
def rc4_2 : RC := (.seq (.run [zr 62 (.mv (zt 12)),zc 63 16 [(zt 62)],zr 64 (.b2s (zt 63)),zr 65 (.mv (zt 13)),zr 66 (.bin .eql (zt 64) (zt 65)),zr 67 (.mv (zt 66)),zg 68 67 true (.mv (zt 12)),⟨(some 69),(some (67,true)),(.c (.fn 16 [(zt 68)])),[]⟩,zg 70 67 true (.lenl (zt 69)),zg 71 67 true (.bin .eql (zt 70) (zi 0)),zr 72 (.pick (zt 67) (zt 71) (.const (.bool false))),za 8 (zt 72)])
  .ret)
def rc4_3 : RC := (.seq (.seq (.run [zr 56 (.mv (zt 3)),zr 57 (.bin .rem (zt 56) (.const (.int .u8 60))),zr 58 (.bin .eql (zt 57) (.const (.int .u8 0)))])
  (.cond (zt 58)
  (.run [zr 59 (.mv (zt 11)),zc 60 16 [(zt 59)],zr 61 (.b2s (zt 60)),za 13 (zt 61)])
  .skip))
  rc4_2)
def rc4_4 : RC := (.seq (.run [zr 17 (.fa 4 (zt 4)),ze (.st 1 (zt 17) (.const (.slice none 0 0)))])
  (.seq (.run [zr 19 (.mv (zt 1)),zr 20 (.mv (zt 1)),zr 21 (.lenl (zt 20)),zr 22 (.mn (zt 21) (zi 2)),zr 23 (.sl 5 (zt 19) none (some (zt 22))),zr 24 (.mv (zt 2)),zc 25 8 [(zt 23),(zt 24)],zr 18 (.mv (zt 25)),zr 26 (.ext 0 (zt 18)),zr 27 (.ext 1 (zt 18)),za 9 (zt 26),za 10 (zt 27)])
  (.seq (.run [zr 28 (.ldn 5 (zt 4)),zr 29 (.mv (zt 9)),zr 30 (.mv (zt 10)),zr 32 (.ldn 5 (zt 4)),zr 33 (.mv (zt 9)),zr 34 (.mv (zt 10)),⟨(some 31),none,(.c (.fn 10 [(zt 28),(zt 29),(zt 30)])),[(32,none,.ldn 5 (zt 4))]⟩,zc 35 10 [(zt 32),(zt 33),(zt 34)],za 11 (zt 31),za 12 (zt 35)])
  (.seq (.run [za 13 (.const (.string ⟨#[]⟩))])
  (.seq (.seq (.run [za 14 (zi 0)])
  (.block 0 (.loop rc4_1)))
  rc4_3)))))
def rc4 : RC := (.seq (.run [zf 4 (.bx 26 (zt 0)),za 8 (.const (.bool false))])
  (.seq (.seq (.run [zc 15 7 [],zr 16 (.not (zt 15))])
  (.cond (zt 16)
  (.seq (.run [za 8 (.const (.bool false))])
  .ret)
  .skip))
  rc4_4))
def ce4 : List (Nat × List Nat × List Nat) := [(5,[0,1,2,4,5,6,3,7,8,9],[0,0,0,7,0,0,0,127,255,511])]
def ro4 : List RO := [(.mv (zt 8))]
theorem ok4 : okFn Tryz.prog 4 73 ce4 = some (rc4,ro4) := by kernel_rfl
def rc7_0 : RC := (.seq (.run [zr 20 (.mv (zt 3)),zc 21 16 [(zt 20)],zr 22 (.b2s (zt 21)),za 4 (zt 22)])
  (.seq (.run [zr 23 (.mv (zt 3)),zf 24 (.bsl 5 1 5 [(.int .u8 0),(.int .u8 0),(.int .u8 0),(.int .u8 0),(.int .u8 0)] [(0,1,(.const (.int .u8 13))),(1,1,(.const (.int .u8 10))),(2,1,(.const (.int .u8 61))),(3,1,(.const (.int .u8 62))),(4,1,(.const (.int .u8 32)))]),zf 25 (.cvm 5 (zt 24)),zc 26 11 [(zt 23),(zt 25)]])
  (.seq (.run [zr 27 (.mv (zt 3)),zc 28 15 [(zt 27)]])
  (.seq (.run [zr 29 (.mv (zt 4)),zr 30 (.bin .eql (zt 29) (.const (.string ⟨#[13]⟩))),zr 31 (.mv (zt 30)),zg 32 31 true (.mv (zt 3)),zg 35 31 true (.mv (zt 1)),zg 36 31 true (.ia 5 (zt 35) (zi 0)),zg 37 31 true (.fa 4 (zt 36)),zg 38 31 true (.ld (zt 37)),zg 39 31 true (.mv (zt 1)),zg 40 31 true (.ia 5 (zt 39) (zi 0)),zg 41 31 true (.fa 1 (zt 40)),zg 42 31 true (.ld (zt 41)),⟨(some 33),(some (31,true)),(.c (.fn 16 [(zt 32)])),[(38,(some (31,true)),.ld (zt 37)),(42,(some (31,true)),.ld (zt 41))]⟩,zg 34 31 true (.b2s (zt 33)),⟨(some 43),(some (31,true)),(.c (.fn 21 [(zt 38),(zt 42)])),[(34,(some (31,true)),.b2s (zt 33))]⟩,zg 44 31 true (.bin .eql (zt 34) (zt 43)),zr 45 (.pick (zt 31) (zt 44) (.const (.bool false))),zr 46 (.mv (zt 45)),zg 47 46 true (.mv (zt 3)),⟨(some 48),(some (46,true)),(.c (.fn 14 [(zt 47)])),[]⟩,zg 49 46 true (.bin .eql (zt 48) (zi 1)),zr 50 (.pick (zt 46) (zt 49) (.const (.bool false))),za 0 (zt 50)])
  .ret))))
def rc7 : RC := (.seq (.run [za 0 (.const (.bool false))])
  (.seq (.run [zr 6 (.bld [(.slice none 0 0),(.int .u16 0),(.int .u16 0),(.int .u32 0),(.int .u8 0)] [(2,1,(.const (.int .u16 9)))]),zf 7 (.bsl 64 5 1 [(.slice none 0 0),(.int .u16 0),(.int .u16 0),(.int .u32 0),(.int .u8 0)] [(0,5,(zt 6))]),zf 8 (.bsl 5 1 1 [(.int .u8 0)] [(0,1,(.const (.int .u8 120)))]),zf 9 (.cvm 5 (zt 8)),zc 10 8 [(zt 7),(zt 9)],zr 5 (.mv (zt 10)),zr 11 (.ext 0 (zt 5)),zr 12 (.ext 1 (zt 5)),za 1 (zt 11),za 2 (zt 12)])
  (.seq (.run [zr 13 (.bld [(.int .i64 0),(.int .i64 0)] [(0,1,(zi 3)),(1,1,(zi 5))]),zr 14 (.bld [(.int .i64 0),(.int .i64 0),(.int .i64 0),(.int .i64 0),(.slice none 0 0)] [(0,2,(zt 13)),(2,1,(zi 2)),(3,1,(zi 100))]),zr 15 (.mv (zt 1)),zr 16 (.mv (zt 2)),zc 17 10 [(zt 14),(zt 15),(zt 16)],za 3 (zt 17)])
  (.seq (.seq (.run [zr 18 (.mv (zt 3)),zr 19 (.eq false .ptr (zt 18) (.const (.pointer none)))])
  (.cond (zt 19)
  (.seq (.run [za 0 (.const (.bool false))])
  .ret)
  .skip))
  rc7_0))))
def ce7 : List (Nat × List Nat × List Nat) := [(8,[0,1,2,3,6,7,8,9,10,11,12,13,4,5,14,15,16,17,18,19,20,21,22],[0,1,3,7,15,31,7,71,199,455,7,1031,3079,7175,16351,32767,65535,131071,262143,524287,1048575,2097151,4194303])]
def ro7 : List RO := [(.mv (zt 0))]
theorem ok7 : okFn Tryz.prog 7 51 ce7 = some (rc7,ro7) := by kernel_rfl
def rc8_0 : RC := (.seq (.block 1 (.seq (.run [zr 16 (.mv (zt 14)),za 8 (zt 16)])
  (.seq (.run [zr 17 (.mv (zt 1)),zr 19 (.mv (zt 6)),zr 20 (.mv (zt 8)),zr 21 (.ia 5 (zt 19) (zt 20)),zr 22 (.fa 2 (zt 21)),zr 23 (.ld (zt 22)),⟨(some 18),none,(.c (.fn 23 [(zt 17),(.const (.bool true))])),[(23,none,.ld (zt 22))]⟩,zr 24 (.sl 1 (zt 18) none (some (zt 23))),za 9 (zt 24)])
  (.seq (.run [zr 25 (.mv (zt 9)),zr 26 (.mv (zt 9)),zr 27 (.ia 1 (zt 26) (zi 0)),zr 28 (.ld (zt 27)),zr 29 (.mv (zt 8)),zr 30 (.cvi .u8 (zt 29)),zr 31 (.bin .add (zt 28) (zt 30)),zr 32 (.ia 1 (zt 25) (zi 0)),ze (.st 1 (zt 32) (zt 31))])
  (.seq (.run [zr 33 (.mv (zt 6)),zr 34 (.mv (zt 8)),zr 35 (.mv (zt 9)),zc 36 17 [(zt 35)],zr 37 (.ia 5 (zt 33) (zt 34)),zr 38 (.fa 3 (zt 37)),ze (.st 1 (zt 38) (zt 36))])
  (.run [zr 39 (.mv (zt 7)),zr 40 (.mv (zt 9)),zf 41 (.bsl 28 1 1 [(.slice none 0 0)] [(0,1,(zt 40))]),zf 42 (.app 28 1 24 (zt 39) (zt 41)),za 7 (zt 42)]))))))
  (.run [zr 43 (.bin .add (zt 14) (zi 1)),zr 14 (.mv (zt 43))]))
def rc8_1 : RC := (.seq (.run [zr 15 (.bin .lss (zt 14) (zt 13))])
  (.seq (.cond (zt 15)
  .skip
  (.exit 0))
  rc8_0))
def rc8_2 : RC := (.seq (.run [zr 44 (.mv (zt 6)),zr 45 (.mv (zt 7)),za 4 (zt 44),za 5 (zt 45)])
  .ret)
def rc8 : RC := (.seq (.run [za 4 (.const (.slice none 0 0)),za 5 (.const (.slice none 0 0))])
  (.seq (.run [zr 10 (.mv (zt 0)),zc 11 22 [(zt 10)],za 6 (zt 11)])
  (.seq (.run [za 7 (.const (.slice none 0 0))])
  (.seq (.seq (.run [zr 12 (.mv (zt 6)),zr 13 (.lenl (zt 12)),zr 14 (.mv (zi 0))])
  (.block 0 (.loop rc8_1)))
  rc8_2))))
def ce8 : List (Nat × List Nat × List Nat) := [(6,[0,2,3,4,5,6,1,7,8],[0,1,0,0,12,28,60,127,255])]
def ro8 : List RO := [(.mv (zt 4)),(.mv (zt 5))]
theorem ok8 : okFn Tryz.prog 8 46 ce8 = some (rc8,ro8) := by kernel_rfl
def rc9_0 : RC := (.seq (.block 3 (.seq (.run [zr 38 (.ia 5 (zt 34) (zt 36)),zr 39 (.ldn 5 (zt 38)),zf 7 (.al [(.string ⟨#[]⟩),(.int .i64 0),(.int .i64 0),(.int .u32 0),(.int .i64 0)] 56),ze (.st 5 (zt 7) (zt 39))])
  (.seq (.run [zr 40 (.fa 0 (zt 7)),zr 41 (.ld (zt 40)),zr 42 (.fa 0 (zt 5)),zr 43 (.ld (zt 42)),zr 44 (.bin .eql (zt 41) (zt 43))])
  (.cond (zt 44)
  (.seq (.run [zr 45 (.mv (zt 4)),zr 46 (.mki 44 (zi 4)),za 2 (zt 45),za 3 (zt 46)])
  .ret)
  .skip))))
  (.run [zr 47 (.bin .add (zt 36) (zi 1)),zr 36 (.mv (zt 47))]))
def rc9_1 : RC := (.seq (.run [zr 37 (.bin .lss (zt 36) (zt 35))])
  (.seq (.cond (zt 37)
  .skip
  (.exit 2))
  rc9_0))
def rc9_2 : RC := (.seq (.block 5 (.seq (.run [zr 87 (.ia 5 (zt 83) (zt 85)),zr 88 (.ldn 5 (zt 87)),zf 9 (.al [(.string ⟨#[]⟩),(.int .i64 0),(.int .i64 0),(.int .u32 0),(.int .i64 0)] 56),ze (.st 5 (zt 9) (zt 88))])
  (.seq (.run [zr 89 (.fa 1 (zt 5)),zr 90 (.ld (zt 89)),zr 91 (.fa 1 (zt 9)),zr 92 (.ld (zt 91)),zr 93 (.ldn 5 (zt 9)),⟨(some 94),none,(.c (.fn 25 [(zt 93)])),[(90,none,.ld (zt 89)),(92,none,.ld (zt 91))]⟩,zr 95 (.bin .add (zt 92) (zt 94)),zr 96 (.bin .lss (zt 90) (zt 95)),zr 97 (.mv (zt 96)),zg 98 97 true (.fa 1 (zt 9)),zg 99 97 true (.ld (zt 98)),zg 100 97 true (.fa 1 (zt 5)),zg 101 97 true (.ld (zt 100)),zg 102 97 true (.ldn 5 (zt 5)),⟨(some 103),(some (97,true)),(.c (.fn 25 [(zt 102)])),[(99,(some (97,true)),.ld (zt 98)),(101,(some (97,true)),.ld (zt 100))]⟩,zg 104 97 true (.bin .add (zt 101) (zt 103)),zg 105 97 true (.bin .lss (zt 99) (zt 104)),zr 106 (.pick (zt 97) (zt 105) (.const (.bool false)))])
  (.cond (zt 106)
  (.seq (.run [zr 107 (.mv (zt 4)),zr 108 (.mki 44 (zi 6)),za 2 (zt 107),za 3 (zt 108)])
  .ret)
  .skip))))
  (.run [zr 109 (.bin .add (zt 85) (zi 1)),zr 85 (.mv (zt 109))]))
def rc9_3 : RC := (.seq (.run [zr 86 (.bin .lss (zt 85) (zt 84))])
  (.seq (.cond (zt 86)
  .skip
  (.exit 4))
  rc9_2))
def rc9_4 : RC := (.seq (.run [zr 81 (.mv (zt 0)),zr 82 (.mv (zt 4)),zr 83 (.sl 5 (zt 81) none (some (zt 82))),zr 84 (.lenl (zt 83)),zr 85 (.mv (zi 0))])
  (.block 4 (.loop rc9_3)))
def rc9_5 : RC := (.seq (.seq (.run [zr 48 (.fa 1 (zt 5)),zr 49 (.ld (zt 48)),zr 50 (.bin .lss (zt 49) (zi 0)),zr 51 (.mv (zt 50)),zg 52 51 false (.fa 2 (zt 5)),zg 53 51 false (.ld (zt 52)),zg 54 51 false (.bin .lss (zt 53) (zi 1)),zr 55 (.pick (zt 51) (.const (.bool true)) (zt 54)),zr 56 (.mv (zt 55)),zg 57 56 false (.fa 2 (zt 5)),zg 58 56 false (.ld (zt 57)),zg 59 56 false (.bin .gtr (zt 58) (zi 8192)),zr 60 (.pick (zt 56) (.const (.bool true)) (zt 59)),zr 61 (.mv (zt 60)),zg 62 61 false (.fa 1 (zt 5)),zg 63 61 false (.ld (zt 62)),zg 64 61 false (.ldn 5 (zt 5)),⟨(some 65),(some (61,false)),(.c (.fn 25 [(zt 64)])),[(63,(some (61,false)),.ld (zt 62))]⟩,zg 66 61 false (.bin .sub (zi 16384) (zt 65)),zg 67 61 false (.bin .gtr (zt 63) (zt 66)),zr 68 (.pick (zt 61) (.const (.bool true)) (zt 67)),zr 69 (.mv (zt 68)),zg 70 69 false (.fa 4 (zt 5)),zg 71 69 false (.ld (zt 70)),zg 72 69 false (.bin .lss (zt 71) (zi 0)),zr 73 (.pick (zt 69) (.const (.bool true)) (zt 72)),zr 74 (.mv (zt 73)),zg 75 74 false (.fa 4 (zt 5)),zg 76 74 false (.ld (zt 75)),zg 77 74 false (.bin .gtr (zt 76) (zi 3)),zr 78 (.pick (zt 74) (.const (.bool true)) (zt 77))])
  (.cond (zt 78)
  (.seq (.run [zr 79 (.mv (zt 4)),zr 80 (.mki 44 (zi 5)),za 2 (zt 79),za 3 (zt 80)])
  .ret)
  .skip))
  rc9_4)
def rc9_6 : RC := (.seq (.seq (.run [zr 32 (.mv (zt 0)),zr 33 (.mv (zt 4)),zr 34 (.sl 5 (zt 32) none (some (zt 33))),zr 35 (.lenl (zt 34)),zr 36 (.mv (zi 0))])
  (.block 2 (.loop rc9_1)))
  rc9_5)
def rc9_7 : RC := (.seq (.block 1 (.seq (.run [zr 23 (.mv (zt 21)),zr 24 (.ia 5 (zt 19) (zt 21)),zr 25 (.ldn 5 (zt 24)),zf 5 (.al [(.string ⟨#[]⟩),(.int .i64 0),(.int .i64 0),(.int .u32 0),(.int .i64 0)] 56),za 4 (zt 23),ze (.st 5 (zt 5) (zt 25))])
  (.seq (.seq (.run [zr 26 (.fa 0 (zt 5)),zr 27 (.ld (zt 26)),zc 28 24 [(zt 27)],zr 29 (.not (zt 28))])
  (.cond (zt 29)
  (.seq (.run [zr 30 (.mv (zt 4)),zr 31 (.mki 44 (zi 3)),za 2 (zt 30),za 3 (zt 31)])
  .ret)
  .skip))
  rc9_6)))
  (.run [zr 110 (.bin .add (zt 21) (zi 1)),zr 21 (.mv (zt 110))]))
def rc9_8 : RC := (.seq (.run [zr 22 (.bin .lss (zt 21) (zt 20))])
  (.seq (.cond (zt 22)
  .skip
  (.exit 0))
  rc9_7))
def rc9_9 : RC := (.seq (.run [za 2 (zi 0),za 3 (.const .nilIface)])
  .ret)
def rc9_10 : RC := (.seq (.seq (.run [zr 19 (.mv (zt 0)),zr 20 (.lenl (zt 19)),zr 21 (.mv (zi 0))])
  (.block 0 (.loop rc9_8)))
  rc9_9)
def rc9 : RC := (.seq (.run [za 2 (zi 0),za 3 (.const .nilIface)])
  (.seq (.seq (.run [zr 10 (.mv (zt 0)),zr 11 (.lenl (zt 10)),zr 12 (.bin .eql (zt 11) (zi 0)),zr 13 (.mv (zt 12)),zg 14 13 false (.mv (zt 0)),zg 15 13 false (.lenl (zt 14)),zg 16 13 false (.bin .gtr (zt 15) (zi 8)),zr 17 (.pick (zt 13) (.const (.bool true)) (zt 16))])
  (.cond (zt 17)
  (.seq (.run [zr 18 (.mki 44 (zi 7)),za 2 (zi (-1)),za 3 (zt 18)])
  .ret)
  .skip))
  rc9_10))
def ce9 : List (Nat × List Nat × List Nat) := [(14,[0,1,2,3,4,5,6,7,8,9,10,11,12,13,14,15,16,17,18,19,20,21,22,23,24,25,26,27,28,29,30],[0,1,3,7,15,31,63,127,255,511,1023,2047,4095,8191,16383,32767,16383,81919,212991,524287,1048575,2097151,4194303,8388607,16777215,33554431,67108863,134217727,268435455,536870911,1073741823]),(19,[0,1,2,3,4,5,6,7,8,9,10,11,12,13,14,15,16,17],[0,1,0,4,0,16,60,127,255,511,1023,511,2559,511,8703,31231,65535,131071])]
def ro9 : List RO := [(.mv (zt 2)),(.mv (zt 3))]
theorem ok9 : okFn Tryz.prog 9 111 ce9 = some (rc9,ro9) := by kernel_rfl
def rc10_0 : RC := (.seq (.block 1 (.seq (.run [zr 28 (.ia 1 (zt 24) (zt 26)),zr 29 (.ld (zt 28)),za 9 (zt 29)])
  (.run [zr 30 (.mv (zt 7)),zr 31 (.mv (zt 7)),zr 32 (.nck (zt 31)),zr 33 (.fa 6 (zt 32)),zr 34 (.ld (zt 33)),zr 35 (.mv (zt 9)),⟨(some 36),none,(.e (.app 5 1 1 (.const (.slice none 0 0)) (zt 35))),[(34,none,.ld (zt 33))]⟩,⟨(some 37),none,(.e (.bsl 28 1 1 [(.slice none 0 0)] [(0,1,(zt 36))])),[(34,none,.ld (zt 33))]⟩,zf 38 (.app 28 1 24 (zt 34) (zt 37)),zr 39 (.nck (zt 30)),zr 40 (.fa 6 (zt 39)),ze (.st 1 (zt 40) (zt 38))])))
  (.run [zr 41 (.bin .add (zt 26) (zi 1)),zr 26 (.mv (zt 41))]))
def rc10_1 : RC := (.seq (.run [zr 27 (.bin .lss (zt 26) (zt 25))])
  (.seq (.cond (zt 27)
  .skip
  (.exit 0))
  rc10_0))
def rc10_2 : RC := (.seq (.run [zr 52 (.fa 4 (zt 3)),zr 53 (.ld (zt 52)),zc 54 31 [(zt 53)],zr 51 (.mv (zt 54)),zr 55 (.ext 0 (zt 51)),zr 56 (.ext 1 (zt 51)),za 11 (zt 55),za 12 (zt 56)])
  (.seq (.run [zr 57 (.mv (zt 7)),zr 58 (.mv (zt 11)),zr 59 (.nck (zt 57)),zr 60 (.fa 10 (zt 59)),ze (.st 1 (zt 60) (zt 58))])
  (.seq (.run [zr 61 (.mv (zt 7)),zr 62 (.mv (zt 12)),zc 63 32 [(zt 61),(zt 62)]])
  (.seq (.run [zr 64 (.mv (zt 7)),zc 65 33 [(zt 64)]])
  (.seq (.run [zr 66 (.mv (zt 7)),za 6 (zt 66)])
  .ret)))))
def rc10_3 : RC := (.seq (.seq (.run [zr 42 (.mv (zt 1)),zr 43 (.mv (zt 2)),zc 44 29 [(zt 42),(zt 43)],za 10 (zt 44)])
  (.seq (.run [zr 45 (.mv (zt 10)),zr 46 (.eq true (.iface []) (zt 45) (.const .nilIface))])
  (.cond (zt 46)
  (.seq (.run [zr 47 (.mv (zt 7)),zr 48 (.mv (zt 10)),zc 49 30 [(zt 47),(zt 48)]])
  (.seq (.run [zr 50 (.mv (zt 7)),za 6 (zt 50)])
  .ret))
  .skip)))
  rc10_2)
def rc10 : RC := (.seq (.run [zf 3 (.bx 26 (zt 0)),za 6 (.const (.pointer none))])
  (.seq (.run [zr 13 (.ldn 5 (zt 3)),zc 14 26 [(zt 13)],ze (.st 5 (zt 3) (zt 14))])
  (.seq (.run [zr 15 (.ldn 5 (zt 3)),zr 16 (.mv (zt 1)),zr 18 (.fa 3 (zt 3)),zr 19 (.ld (zt 18)),⟨(some 17),none,(.e (.app 56 5 48 (.const (.slice none 0 0)) (zt 16))),[(15,none,.ldn 5 (zt 3)),(19,none,.ld (zt 18))]⟩,⟨(some 20),none,(.c (.fn 27 [(zt 19)])),[(15,none,.ldn 5 (zt 3))]⟩,⟨(some 21),none,(.c (.fn 28 [(zi 1)])),[(15,none,.ldn 5 (zt 3))]⟩,zr 22 (.bld [(.int .i64 0),(.int .i64 0),(.int .i64 0),(.int .i64 0),(.slice none 0 0),(.slice none 0 0),(.slice none 0 0),(.int .i64 0),(.int .i64 0),(.int .i64 0),(.pointer none),.nilIface,(.pointer none),(.int .i64 0),(.pointer none),(.pointer none),(.slice none 0 0),(.slice none 0 0),(.complex .f64 0 0),.nilIface] [(0,5,(zt 15)),(5,1,(zt 17)),(14,1,(zt 20)),(15,1,(zt 21))]),zf 23 (.bx 83 (zt 22)),za 7 (zt 23)])
  (.seq (.seq (.run [zr 24 (.mv (zt 2)),zr 25 (.lenl (zt 24)),zr 26 (.mv (zi 0))])
  (.block 0 (.loop rc10_1)))
  rc10_3))))
def ce10 : List (Nat × List Nat × List Nat) := [(2,[0,1,3,4,2,5,6,7,8,9],[0,0,2,0,8,30,62,127,255,511]),(6,[0,1,2,3,4,5,6,7,8,9,10,11],[0,0,2,6,14,0,32,96,254,511,1023,2047])]
def ro10 : List RO := [(.mv (zt 6))]
theorem ok10 : okFn Tryz.prog 10 67 ce10 = some (rc10,ro10) := by kernel_rfl
def rc11 : RC := (.seq (.run [zr 4 (.mv (zt 0)),zr 5 (.nck (zt 4)),zr 6 (.fa 14 (zt 5)),zr 7 (.ld (zt 6)),zr 8 (.mv (zt 1)),zc 9 34 [(zt 7),(zt 8)]])
  (.seq (.run [zr 10 (.mv (zt 0)),zr 11 (.nck (zt 10)),zr 12 (.fa 14 (zt 11)),zr 13 (.ld (zt 12)),zc 14 35 [(zt 13)],zr 15 (.bin .gtr (zt 14) (zi 0)),zr 16 (.mv (zt 15)),zg 17 16 true (.mv (zt 0)),zg 18 16 true (.nck (zt 17)),zg 19 16 true (.fa 7 (zt 18)),zg 20 16 true (.ld (zt 19)),zg 21 16 true (.bin .neq (zt 20) (zi 7)),zr 22 (.pick (zt 16) (zt 21) (.const (.bool false)))])
  (.cond (zt 22)
  (.run [zr 23 (.mv (zt 0)),zr 24 (.mki 44 (zi 13)),zc 25 30 [(zt 23),(zt 24)]])
  .skip)))
def ce11 : List (Nat × List Nat × List Nat) := []
def ro11 : List RO := []
theorem ok11 : okFn Tryz.prog 11 26 ce11 = some (rc11,ro11) := by kernel_rfl
def rc14 : RC := (.seq (.run [za 2 (zi 0)])
  (.seq (.run [zr 3 (.mv (zt 0)),zr 4 (.nck (zt 3)),zr 5 (.fa 7 (zt 4)),zr 6 (.ld (zt 5)),za 2 (zt 6)])
  .ret))
def ce14 : List (Nat × List Nat × List Nat) := []
def ro14 : List RO := [(.mv (zt 2))]
theorem ok14 : okFn Tryz.prog 14 7 ce14 = some (rc14,ro14) := by kernel_rfl
def rc15_0 : RC := (.seq (.block 1 (.seq (.run [zr 12 (.ia 1 (zt 8) (zt 10)),zr 13 (.ld (zt 12)),za 3 (zt 13)])
  (.run [zr 14 (.mv (zt 0)),zr 15 (.mv (zt 3)),zc 16 38 [(zt 14),(zt 15)]])))
  (.run [zr 17 (.bin .add (zt 10) (zi 1)),zr 10 (.mv (zt 17))]))
def rc15_1 : RC := (.seq (.run [zr 11 (.bin .lss (zt 10) (zt 9))])
  (.seq (.cond (zt 11)
  .skip
  (.exit 0))
  rc15_0))
def rc15_2 : RC := (.seq (.run [zr 18 (.mv (zt 0)),zr 19 (.nck (zt 18)),zr 20 (.fa 7 (zt 19)),zr 21 (.ld (zt 20))])
  (.block 2 (.seq (.run [zr 25 (.bin .eql (zt 21) (zi 7)),za 24 (zt 25)])
  (.cond (zt 24)
  .skip
  (.seq (.run [zr 27 (.bin .eql (zt 21) (zi 0)),za 26 (zt 27)])
  (.cond (zt 26)
  (.seq (.run [zr 28 (.mv (zt 0)),zr 29 (.mv (zt 0)),zr 30 (.nck (zt 29)),zr 31 (.fa 10 (zt 30)),zr 32 (.ld (zt 31)),zc 33 39 [(zt 32)],zc 34 32 [(zt 28),(zt 33)]])
  (.run [zr 35 (.mv (zt 0)),zc 36 33 [(zt 35)]]))
  (.seq (.run [zr 38 (.bin .eql (zt 21) (zi 1)),za 37 (zt 38)])
  (.cond (zt 37)
  (.seq (.run [zr 39 (.mv (zt 0)), zr 40 (.mv (zt 0)), zr 41 (.nck (zt 40)), zr 42 (.fa 11 (zt 41)), zr 43 (.ld (zt 42)), ⟨(some 44), none, (.c (.inv (zt 43) "Tick" [])), []⟩, zc 45 32 [(zt 39), (zt 44)]])
  (.run [zr 46 (.mv (zt 0)),zc 47 40 [(zt 46)]]))
  (.run [zr 22 (.mv (zt 0)),zc 23 41 [(zt 22)]])))))))))
def rc15 : RC := (.seq (.seq (.run [zr 4 (.mv (zt 0)),zr 5 (.nck (zt 4)),zr 6 (.fa 14 (zt 5)),zr 7 (.ld (zt 6)),zc 8 37 [(zt 7),(zi 4096)],zr 9 (.lenl (zt 8)),zr 10 (.mv (zi 0))])
  (.block 0 (.loop rc15_1)))
  rc15_2)
def ce15 : List (Nat × List Nat × List Nat) := []
def ro15 : List RO := []
theorem ok15 : okFn Tryz.prog 15 48 ce15 = some (rc15,ro15) := by kernel_rfl
def rc16 : RC := (.seq (.run [za 2 (.const (.slice none 0 0))])
  (.seq (.run [zr 4 (.mv (zt 0)),zr 5 (.nck (zt 4)),zr 6 (.fa 17 (zt 5)),zr 7 (.ld (zt 6)),za 3 (zt 7)])
  (.seq (.run [zr 8 (.mv (zt 0)),zr 9 (.nck (zt 8)),zr 10 (.fa 17 (zt 9)),ze (.st 1 (zt 10) (.const (.slice none 0 0)))])
  (.seq (.run [zr 11 (.mv (zt 3)),za 2 (zt 11)])
  .ret))))
def ce16 : List (Nat × List Nat × List Nat) := []
def ro16 : List RO := [(.mv (zt 2))]
theorem ok16 : okFn Tryz.prog 16 12 ce16 = some (rc16,ro16) := by kernel_rfl
def rc17 : RC := (.seq (.run [za 2 (.const (.int .u32 0))])
  (.seq (.run [zr 4 (.bld [(.int .u32 0),(.int .u32 0)] []),zf 5 (.bx 96 (zt 4)),za 3 (zt 5)])
  (.seq (.run [zr 6 (.mv (zt 3)),zr 7 (.mv (zt 0)),zc 8 42 [(zt 6),(zt 7)]])
  (.seq (.run [zr 9 (.mv (zt 3)),zc 10 43 [(zt 9)],za 2 (zt 10)])
  .ret))))
def ce17 : List (Nat × List Nat × List Nat) := []
def ro17 : List RO := [(.mv (zt 2))]
theorem ok17 : okFn Tryz.prog 17 11 ce17 = some (rc17,ro17) := by kernel_rfl
def rc19_0 : RC := (.run [⟨(some 75),none,(.e (.app 9 1 16 (zt 71) (zt 74))),[(78,none,.ld (zt 77))]⟩,⟨(some 79),none,(.e (.bsl 9 1 1 [(.string ⟨#[]⟩)] [(0,1,(zt 78))])),[(73,none,.ld (zt 72))]⟩,zf 80 (.app 9 1 16 (zt 76) (zt 79)),za 6 (zt 75),za 7 (zt 80)])
def rc19_1 : RC := (.run [⟨(some 79),none,(.e (.bsl 9 1 1 [(.string ⟨#[]⟩)] [(0,1,(zt 78))])),[(73,none,.ld (zt 72))]⟩,⟨(some 75),none,(.e (.app 9 1 16 (zt 71) (zt 74))),[(78,none,.ld (zt 77))]⟩,zf 80 (.app 9 1 16 (zt 76) (zt 79)),za 6 (zt 75),za 7 (zt 80)])
def rc19_2 : RC := (.fork [⟨(some 74),none,(.e (.bsl 9 1 1 [(.string ⟨#[]⟩)] [(0,1,(zt 73))])),[(78,none,.ld (zt 77))]⟩]
  rc19_0
  rc19_1)
def rc19_3 : RC := (.run [⟨(some 79),none,(.e (.bsl 9 1 1 [(.string ⟨#[]⟩)] [(0,1,(zt 78))])),[(73,none,.ld (zt 72))]⟩,⟨(some 74),none,(.e (.bsl 9 1 1 [(.string ⟨#[]⟩)] [(0,1,(zt 73))])),[(78,none,.ld (zt 77))]⟩,⟨(some 75),none,(.e (.app 9 1 16 (zt 71) (zt 74))),[(78,none,.ld (zt 77))]⟩,zf 80 (.app 9 1 16 (zt 76) (zt 79)),za 6 (zt 75),za 7 (zt 80)])
def rc19_4 : RC := (.seq (.block 3 (.seq (.run [zr 69 (.ia 2 (zt 65) (zt 67)),zr 70 (.ldn 2 (zt 69)),zf 9 (.al [(.string ⟨#[]⟩),(.string ⟨#[]⟩)] 105),ze (.st 2 (zt 9) (zt 70))])
  (.sem (.fork [zr 71 (.mv (zt 6)),zr 72 (.fa 1 (zt 9)),zr 73 (.ld (zt 72)),zr 76 (.mv (zt 7)),zr 77 (.fa 0 (zt 9)),zr 78 (.ld (zt 77))]
  rc19_2
  rc19_3))))
  (.run [zr 81 (.bin .add (zt 67) (zi 1)),zr 67 (.mv (zt 81))]))
def rc19_5 : RC := (.seq (.run [zr 68 (.bin .lss (zt 67) (zt 66))])
  (.seq (.cond (zt 68)
  .skip
  (.exit 2))
  rc19_4))
def rc19_6 : RC := (.seq (.run [zr 83 (.mv (zt 7)),zc 84 45 [(zt 83)],zr 82 (.mv (zt 84)),zr 85 (.ext 0 (zt 82)),zr 86 (.ext 1 (zt 82)),za 10 (zt 85),za 11 (zt 86)])
  (.seq (.run [zr 87 (.mv (zt 11)),zr 88 (.eq true (.iface []) (zt 87) (.const .nilIface))])
  (.cond (zt 88)
  (.seq (.run [zr 89 (.mv (zt 4)),zr 90 (.mv (zt 11)),zc 91 13 [(zt 90)],zr 92 (.mki 44 (zt 91)),za 2 (zt 89),za 3 (zt 92)])
  .ret)
  .skip)))
def rc19_7 : RC := (.seq (.block 5 (.seq (.run [zr 97 (.ia 1 (zt 93) (zt 95)),zr 98 (.ld (zt 97)),za 13 (zt 98)])
  (.seq (.run [zr 99 (.mv (zt 0)),zr 100 (.mv (zt 13)),zc 101 44 [(zt 99),(zt 100)],zr 102 (.bin .lss (zt 101) (zi 0))])
  (.cond (zt 102)
  (.seq (.run [zr 103 (.mv (zt 4)),zr 104 (.mki 44 (zi 3)),za 2 (zt 103),za 3 (zt 104)])
  .ret)
  .skip))))
  (.run [zr 105 (.bin .add (zt 95) (zi 1)),zr 95 (.mv (zt 105))]))
def rc19_8 : RC := (.seq (.run [zr 96 (.bin .lss (zt 95) (zt 94))])
  (.seq (.cond (zt 96)
  .skip
  (.exit 4))
  rc19_7))
def rc19_9 : RC := (.seq (.run [zr 93 (.mv (zt 6)),zr 94 (.lenl (zt 93)),zr 95 (.mv (zi 0))])
  (.block 4 (.loop rc19_8)))
def rc19_10 : RC := (.seq (.run [za 7 (.const (.slice none 0 0))])
  (.seq (.seq (.run [zr 61 (.fa 1 (zt 5)),zr 62 (.ld (zt 61)),zr 63 (.bin .eql (zt 62) (zi 1))])
  (.cond (zt 63)
  (.seq (.seq (.run [zr 64 (.fa 3 (zt 5)),zr 65 (.ld (zt 64)),zr 66 (.lenl (zt 65)),zr 67 (.mv (zi 0))])
  (.block 2 (.loop rc19_5)))
  rc19_6)
  .skip))
  rc19_9))
def rc19_11 : RC := (.seq (.run [za 6 (.const (.slice none 0 0))])
  (.seq (.seq (.run [zr 43 (.fa 1 (zt 5)),zr 44 (.ld (zt 43)),zr 45 (.bin .eql (zt 44) (zi 1)),zr 46 (.mv (zt 45)),zg 47 46 false (.fa 1 (zt 5)),zg 48 46 false (.ld (zt 47)),zg 49 46 false (.bin .eql (zt 48) (zi 2)),zr 50 (.pick (zt 46) (.const (.bool true)) (zt 49)),zr 51 (.mv (zt 50)),zg 52 51 false (.fa 1 (zt 5)),zg 53 51 false (.ld (zt 52)),zg 54 51 false (.bin .eql (zt 53) (zi 3)),zr 55 (.pick (zt 51) (.const (.bool true)) (zt 54))])
  (.cond (zt 55)
  (.run [zr 56 (.mv (zt 6)),zr 57 (.fa 5 (zt 5)),zr 58 (.ld (zt 57)),zf 59 (.bsl 9 1 1 [(.string ⟨#[]⟩)] [(0,1,(zt 58))]),zf 60 (.app 9 1 16 (zt 56) (zt 59)),za 6 (zt 60)])
  .skip))
  rc19_10))
def rc19_12 : RC := (.seq (.block 1 (.seq (.run [zr 27 (.mv (zt 25)),zr 28 (.ia 7 (zt 23) (zt 25)),zr 29 (.ldn 7 (zt 28)),zf 5 (.al [(.string ⟨#[]⟩),(.int .i64 0),(.string ⟨#[]⟩),(.slice none 0 0),(.int .i64 0),(.string ⟨#[]⟩),(.int .i64 0)] 101),za 4 (zt 27),ze (.st 7 (zt 5) (zt 29))])
  (.seq (.seq (.run [zr 30 (.fa 0 (zt 5)),zr 31 (.ld (zt 30)),zr 32 (.bin .neq (zt 31) (.const (.string ⟨#[]⟩))),zr 33 (.mv (zt 32)),zg 34 33 true (.mv (zt 0)),zg 35 33 true (.fa 0 (zt 5)),zg 36 33 true (.ld (zt 35)),⟨(some 37),(some (33,true)),(.c (.fn 44 [(zt 34),(zt 36)])),[]⟩,zg 38 33 true (.mv (zt 4)),zg 39 33 true (.bin .neq (zt 37) (zt 38)),zr 40 (.pick (zt 33) (zt 39) (.const (.bool false)))])
  (.cond (zt 40)
  (.seq (.run [zr 41 (.mv (zt 4)),zr 42 (.mki 44 (zi 4)),za 2 (zt 41),za 3 (zt 42)])
  .ret)
  .skip))
  rc19_11)))
  (.run [zr 106 (.bin .add (zt 25) (zi 1)),zr 25 (.mv (zt 106))]))
def rc19_13 : RC := (.seq (.run [zr 26 (.bin .lss (zt 25) (zt 24))])
  (.seq (.cond (zt 26)
  .skip
  (.exit 0))
  rc19_12))
def rc19_14 : RC := (.seq (.run [za 2 (zi 0),za 3 (.const .nilIface)])
  .ret)
def rc19_15 : RC := (.seq (.seq (.run [zr 23 (.mv (zt 0)),zr 24 (.lenl (zt 23)),zr 25 (.mv (zi 0))])
  (.block 0 (.loop rc19_13)))
  rc19_14)
def rc19 : RC := (.seq (.run [za 2 (zi 0),za 3 (.const .nilIface)])
  (.seq (.seq (.run [zr 14 (.mv (zt 0)),zr 15 (.lenl (zt 14)),zr 16 (.bin .eql (zt 15) (zi 0)),zr 17 (.mv (zt 16)),zg 18 17 false (.mv (zt 0)),zg 19 17 false (.lenl (zt 18)),zg 20 17 false (.bin .gtr (zt 19) (zi 64)),zr 21 (.pick (zt 17) (.const (.bool true)) (zt 20))])
  (.cond (zt 21)
  (.seq (.run [zr 22 (.mki 44 (zi 7)),za 2 (zi (-1)),za 3 (zt 22)])
  .ret)
  .skip))
  rc19_15))
def ce19 : List (Nat × List Nat × List Nat) := [(16,[0,1,2,5,6,7,1000,3,1000,4,8,9,10,11,1001,8,4,9,10,11,1001,8,3,4,9,10,11],[0,0,2,6,15,0,0,64,192,511,1023,2047])]
def ro19 : List RO := [(.mv (zt 2)),(.mv (zt 3))]
theorem ok19 : okFn Tryz.prog 19 107 ce19 = some (rc19,ro19) := by kernel_rfl
def rc20 : RC := (.seq (.run [za 0 (.const (.slice none 0 0))])
  (.seq (.run [zr 1 (.bld [(.string ⟨#[]⟩),(.int .i64 0),(.string ⟨#[]⟩),(.slice none 0 0),(.int .i64 0),(.string ⟨#[]⟩),(.int .i64 0)] [(0,1,(.const (.string ⟨#[97]⟩))),(1,1,(zi 0)),(2,1,(.const (.string ⟨#[13]⟩)))]),zr 2 (.bld [(.string ⟨#[]⟩),(.string ⟨#[]⟩)] [(0,1,(.const (.string ⟨#[61,62,32]⟩))),(1,1,(.const (.string ⟨#[98]⟩)))]),zf 3 (.bsl 105 2 1 [(.string ⟨#[]⟩),(.string ⟨#[]⟩)] [(0,2,(zt 2))]),zr 4 (.bld [(.string ⟨#[]⟩),(.int .i64 0),(.string ⟨#[]⟩),(.slice none 0 0),(.int .i64 0),(.string ⟨#[]⟩),(.int .i64 0)] [(1,1,(zi 1)),(3,1,(zt 3)),(4,1,(zi 8)),(5,1,(.const (.string ⟨#[99]⟩)))]),zr 5 (.bld [(.string ⟨#[]⟩),(.int .i64 0),(.string ⟨#[]⟩),(.slice none 0 0),(.int .i64 0),(.string ⟨#[]⟩),(.int .i64 0)] [(0,1,(.const (.string ⟨#[99]⟩))),(1,1,(zi 3)),(4,1,(zi 5)),(5,1,(.const (.string ⟨#[97]⟩)))]),zr 6 (.bld [(.string ⟨#[]⟩),(.int .i64 0),(.string ⟨#[]⟩),(.slice none 0 0),(.int .i64 0),(.string ⟨#[]⟩),(.int .i64 0)] [(1,1,(zi 5))]),zr 7 (.bld [(.string ⟨#[]⟩),(.int .i64 0),(.string ⟨#[]⟩),(.slice none 0 0),(.int .i64 0),(.string ⟨#[]⟩),(.int .i64 0)] [(0,1,(.const (.string ⟨#[98]⟩))),(1,1,(zi 4))]),zf 8 (.bsl 101 7 5 [(.string ⟨#[]⟩),(.int .i64 0),(.string ⟨#[]⟩),(.slice none 0 0),(.int .i64 0),(.string ⟨#[]⟩),(.int .i64 0),(.string ⟨#[]⟩),(.int .i64 0),(.string ⟨#[]⟩),(.slice none 0 0),(.int .i64 0),(.string ⟨#[]⟩),(.int .i64 0),(.string ⟨#[]⟩),(.int .i64 0),(.string ⟨#[]⟩),(.slice none 0 0),(.int .i64 0),(.string ⟨#[]⟩),(.int .i64 0),(.string ⟨#[]⟩),(.int .i64 0),(.string ⟨#[]⟩),(.slice none 0 0),(.int .i64 0),(.string ⟨#[]⟩),(.int .i64 0),(.string ⟨#[]⟩),(.int .i64 0),(.string ⟨#[]⟩),(.slice none 0 0),(.int .i64 0),(.string ⟨#[]⟩),(.int .i64 0)] [(0,7,(zt 1)),(7,7,(zt 4)),(14,7,(zt 5)),(21,7,(zt 6)),(28,7,(zt 7))]),za 0 (zt 8)])
  .ret))
def ce20 : List (Nat × List Nat × List Nat) := []
def ro20 : List RO := [(.mv (zt 0))]
theorem ok20 : okFn Tryz.prog 20 9 ce20 = some (rc20,ro20) := by kernel_rfl
def rc21 : RC := (.seq (.run [za 4 (.const (.string ⟨#[]⟩))])
  (.seq (.run [zr 6 (.mv (zt 0)),zr 7 (.mn (zt 6) (zi 3)),zr 8 (.mx (zi 0) (zt 7)),zr 13 (.mv (zt 1)),zc 5 46 [],zr 9 (.ia 1 (zt 5) (zt 8)),zr 10 (.ld (zt 9)),zr 11 (.bin .add (.const (.string ⟨#[108,111,97,100,32]⟩)) (zt 10)),zr 12 (.bin .add (zt 11) (.const (.string ⟨#[32]⟩))),⟨(some 14),none,(.c (.fn 47 [(zt 13),(zi 16)])),[(10,none,.ld (zt 9))]⟩,zr 15 (.bin .add (zt 12) (zt 14)),zr 16 (.bin .add (zt 15) (.const (.string ⟨#[13]⟩))),za 4 (zt 16)])
  .ret))
def ce21 : List (Nat × List Nat × List Nat) := [(1,[1,2,3,8,0,4,5,6,7,9,10,11,12],[0,0,2,6,15,31,63,127,0,257,1023,2047,4095])]
def ro21 : List RO := [(.mv (zt 4))]
theorem ok21 : okFn Tryz.prog 21 17 ce21 = some (rc21,ro21) := by kernel_rfl
def rc22_0 : RC := (.seq (.block 1 (.seq (.run [zr 10 (.mv (zt 8)),zr 11 (.ia 5 (zt 6) (zt 8)),zr 12 (.ldn 5 (zt 11)),zf 5 (.al [(.slice none 0 0),(.int .u16 0),(.int .u16 0),(.int .u32 0),(.int .u8 0)] 64),za 4 (zt 10),ze (.st 5 (zt 5) (zt 12))])
  (.seq (.run [zr 13 (.mv (zt 4)),zr 14 (.bin .lss (zt 13) (zi 8))])
  (.cond (zt 14)
  (.run [zr 15 (.mv (zt 3)),zr 16 (.ldn 5 (zt 5)),zr 17 (.mv (zt 4)),zc 18 48 [(zt 16),(zt 17)],zf 19 (.bsl 56 5 1 [(.string ⟨#[]⟩),(.int .i64 0),(.int .i64 0),(.int .u32 0),(.int .i64 0)] [(0,5,(zt 18))]),zf 20 (.app 56 5 48 (zt 15) (zt 19)),za 3 (zt 20)])
  .skip))))
  (.run [zr 21 (.bin .add (zt 8) (zi 1)),zr 8 (.mv (zt 21))]))
def rc22_1 : RC := (.seq (.run [zr 9 (.bin .lss (zt 8) (zt 7))])
  (.seq (.cond (zt 9)
  .skip
  (.exit 0))
  rc22_0))
def rc22_2 : RC := (.seq (.run [zr 22 (.mv (zt 3)),za 2 (zt 22)])
  .ret)
def rc22 : RC := (.seq (.run [za 2 (.const (.slice none 0 0))])
  (.seq (.run [za 3 (.const (.slice none 0 0))])
  (.seq (.seq (.run [zr 6 (.mv (zt 0)),zr 7 (.lenl (zt 6)),zr 8 (.mv (zi 0))])
  (.block 0 (.loop rc22_1)))
  rc22_2)))
def ce22 : List (Nat × List Nat × List Nat) := []
def ro22 : List RO := [(.mv (zt 2))]
theorem ok22 : okFn Tryz.prog 22 23 ce22 = some (rc22,ro22) := by kernel_rfl
def rc23_0 : RC := (.seq (.block 1 (.seq (.run [zr 15 (.mv (zt 13)),za 7 (zt 15)])
  (.seq (.run [zr 16 (.mv (zt 0)),zr 17 (.lenl (zt 16)),zr 18 (.bin .gtr (zt 17) (zi 0))])
  (.cond (zt 18)
  (.run [zr 19 (.mv (zt 6)),zr 20 (.mv (zt 7)),zr 21 (.mv (zt 0)),zr 22 (.mv (zt 7)),zr 23 (.mv (zt 0)),zr 24 (.lenl (zt 23)),zr 25 (.bin .rem (zt 22) (zt 24)),zr 26 (.ia 1 (zt 21) (zt 25)),zr 27 (.ld (zt 26)),zr 28 (.mv (zt 7)),zr 29 (.mv (zt 0)),zr 30 (.lenl (zt 29)),zr 31 (.bin .quo (zt 28) (zt 30)),zr 32 (.cvi .u8 (zt 31)),zr 33 (.bin .add (zt 27) (zt 32)),zr 34 (.ia 1 (zt 19) (zt 20)),ze (.st 1 (zt 34) (zt 33))])
  .skip))))
  (.run [zr 35 (.bin .add (zt 13) (zi 1)),zr 13 (.mv (zt 35))]))
def rc23_1 : RC := (.seq (.run [zr 14 (.bin .lss (zt 13) (zt 12))])
  (.seq (.cond (zt 14)
  .skip
  (.exit 0))
  rc23_0))
def rc23_2 : RC := (.seq (.run [zr 36 (.mv (zt 6)),za 4 (zt 36)])
  .ret)
def rc23_3 : RC := (.seq (.run [zr 9 (.mv (zt 5)),zf 10 (.mks 5 1 (.int .u8 0) (zt 9) (zt 9)),za 6 (zt 10)])
  (.seq (.seq (.run [zr 11 (.mv (zt 6)),zr 12 (.lenl (zt 11)),zr 13 (.mv (zi 0))])
  (.block 0 (.loop rc23_1)))
  rc23_2))
def rc23 : RC := (.seq (.run [za 4 (.const (.slice none 0 0))])
  (.seq (.run [za 5 (zi 128)])
  (.seq (.seq (.run [zr 8 (.mv (zt 1))])
  (.cond (zt 8)
  (.run [za 5 (zi 1024)])
  .skip))
  rc23_3)))
def ce23 : List (Nat × List Nat × List Nat) := [(9,[0,1,2,3,4,5,6,7,8,9,10,11,12,13,14,15,16],[0,0,0,0,0,16,56,124,252,0,0,1024,3584,7680,16380,32767,65535])]
def ro23 : List RO := [(.mv (zt 4))]
theorem ok23 : okFn Tryz.prog 23 37 ce23 = some (rc23,ro23) := by kernel_rfl
def rc24_0 : RC := (.seq (.block 1 (.seq (.run [zr 10 (.mv (zt 8)),za 3 (zt 10)])
  (.seq (.run [zr 11 (.mv (zt 0)),zr 12 (.mv (zt 3)),zr 13 (.ixs (zt 11) (zt 12)),za 4 (zt 13)])
  (.seq (.run [zr 14 (.mv (zt 4)),zr 15 (.bin .geq (zt 14) (.const (.int .u8 97))),zr 16 (.mv (zt 15)),zg 17 16 true (.mv (zt 4)),zg 18 16 true (.bin .leq (zt 17) (.const (.int .u8 122))),zr 19 (.pick (zt 16) (zt 18) (.const (.bool false))),zr 20 (.mv (zt 19)),zg 21 20 false (.mv (zt 4)),zg 22 20 false (.bin .geq (zt 21) (.const (.int .u8 65))),zg 23 20 false (.mv (zt 22)),zg 24 23 true (.mv (zt 4)),zg 25 23 true (.bin .leq (zt 24) (.const (.int .u8 90))),zg 26 20 false (.pick (zt 23) (zt 25) (.const (.bool false))),zr 27 (.pick (zt 20) (.const (.bool true)) (zt 26)),za 5 (zt 27)])
  (.seq (.run [zr 28 (.mv (zt 5)),zr 29 (.not (zt 28)),zr 30 (.mv (zt 29)),zg 31 30 true (.mv (zt 3)),zg 32 30 true (.bin .eql (zt 31) (zi 0)),zg 33 30 true (.mv (zt 32)),zg 34 33 false (.mv (zt 4)),zg 35 33 false (.bin .neq (zt 34) (.const (.int .u8 46))),zg 36 33 false (.mv (zt 35)),zg 37 36 true (.mv (zt 4)),zg 38 36 true (.bin .neq (zt 37) (.const (.int .u8 45))),zg 39 33 false (.pick (zt 36) (zt 38) (.const (.bool false))),zg 40 33 false (.mv (zt 39)),zg 41 40 true (.mv (zt 4)),zg 42 40 true (.bin .neq (zt 41) (.const (.int .u8 95))),zg 43 33 false (.pick (zt 40) (zt 42) (.const (.bool false))),zg 44 33 false (.mv (zt 43)),zg 45 44 true (.mv (zt 4)),zg 46 44 true (.bin .lss (zt 45) (.const (.int .u8 48))),zg 47 44 true (.mv (zt 46)),zg 48 47 false (.mv (zt 4)),zg 49 47 false (.bin .gtr (zt 48) (.const (.int .u8 57))),zg 50 44 true (.pick (zt 47) (.const (.bool true)) (zt 49)),zg 51 33 false (.pick (zt 44) (zt 50) (.const (.bool false))),zg 52 30 true (.pick (zt 33) (.const (.bool true)) (zt 51)),zr 53 (.pick (zt 30) (zt 52) (.const (.bool false)))])
  (.cond (zt 53)
  (.seq (.run [za 2 (.const (.bool false))])
  .ret)
  .skip))))))
  (.run [zr 54 (.bin .add (zt 8) (zi 1)),zr 8 (.mv (zt 54))]))
def rc24_1 : RC := (.seq (.run [zr 9 (.bin .lss (zt 8) (zt 7))])
  (.seq (.cond (zt 9)
  .skip
  (.exit 0))
  rc24_0))
def rc24_2 : RC := (.seq (.run [zr 55 (.mv (zt 0)),zr 56 (.lens (zt 55)),zr 57 (.bin .gtr (zt 56) (zi 0)),zr 58 (.mv (zt 57)),zg 59 58 true (.mv (zt 0)),zg 60 58 true (.lens (zt 59)),zg 61 58 true (.bin .leq (zt 60) (zi 32)),zr 62 (.pick (zt 58) (zt 61) (.const (.bool false))),za 2 (zt 62)])
  .ret)
def rc24 : RC := (.seq (.run [za 2 (.const (.bool false))])
  (.seq (.seq (.run [zr 6 (.mv (zt 0)),zr 7 (.lens (zt 6)),zr 8 (.mv (zi 0))])
  (.block 0 (.loop rc24_1)))
  rc24_2))
def ce24 : List (Nat × List Nat × List Nat) := []
def ro24 : List RO := [(.mv (zt 2))]
theorem ok24 : okFn Tryz.prog 24 63 ce24 = some (rc24,ro24) := by kernel_rfl
def rc25_0 : RC := (.seq (.run [zr 20 (.fa 2 (zt 1)),zr 21 (.ld (zt 20)),zr 22 (.bin .add (zt 21) (zi 128)),zr 23 (.bin .sub (zt 22) (zi 1)),zr 24 (.bin .quo (zt 23) (zi 128)),zr 25 (.bin .mul (zt 24) (zi 128)),za 2 (zt 25)])
  .ret)
def rc25 : RC := (.seq (.run [zf 1 (.bx 56 (zt 0)),za 2 (zi 0)])
  (.seq (.seq (.run [zr 3 (.fa 4 (zt 1)),zr 4 (.ld (zt 3)),zr 5 (.bin .eql (zt 4) (zi 3)),zr 6 (.mv (zt 5)),zg 7 6 false (.fa 2 (zt 1)),zg 8 6 false (.ld (zt 7)),zg 9 6 false (.bin .lss (zt 8) (zi 0)),zr 10 (.pick (zt 6) (.const (.bool true)) (zt 9)),zr 11 (.mv (zt 10)),zg 12 11 false (.fa 2 (zt 1)),zg 13 11 false (.ld (zt 12)),zg 14 11 false (.bin .gtr (zt 13) (zi 8192)),zr 15 (.pick (zt 11) (.const (.bool true)) (zt 14))])
  (.cond (zt 15)
  (.seq (.run [zr 16 (.fa 2 (zt 1)),zr 17 (.ld (zt 16)),zr 18 (.mn (zt 17) (zi 8192)),zr 19 (.mx (zi 0) (zt 18)),za 2 (zt 19)])
  .ret)
  .skip))
  rc25_0))
def ce25 : List (Nat × List Nat × List Nat) := []
def ro25 : List RO := [(.mv (zt 2))]
theorem ok25 : okFn Tryz.prog 25 26 ce25 = some (rc25,ro25) := by kernel_rfl
def rc26_0 : RC := (.seq (.run [zr 19 (.ldn 5 (zt 1)),ze (.st 5 (zt 2) (zt 19))])
  .ret)
def rc26 : RC := (.seq (.run [zf 1 (.bx 26 (zt 0)),zf 2 (.al [(.int .i64 0),(.int .i64 0),(.int .i64 0),(.int .i64 0),(.slice none 0 0)] 26)])
  (.seq (.run [zr 3 (.fa 2 (zt 1)),zr 4 (.ld (zt 3)),zr 5 (.mn (zt 4) (zi 9)),zr 6 (.mx (zi 1) (zt 5)),zr 7 (.fa 2 (zt 1)),ze (.st 1 (zt 7) (zt 6))])
  (.seq (.run [zr 8 (.fa 3 (zt 1)),zr 9 (.ld (zt 8)),zr 10 (.mn (zt 9) (zi 4096)),zr 11 (.mx (zi 1) (zt 10)),zr 12 (.fa 3 (zt 1)),ze (.st 1 (zt 12) (zt 11))])
  (.seq (.seq (.run [zr 13 (.fa 4 (zt 1)),zr 14 (.ld (zt 13)),zr 15 (.lenl (zt 14)),zr 16 (.bin .eql (zt 15) (zi 0))])
  (.cond (zt 16)
  (.run [zc 17 20 [],zr 18 (.fa 4 (zt 1)),ze (.st 1 (zt 18) (zt 17))])
  .skip))
  rc26_0))))
def ce26 : List (Nat × List Nat × List Nat) := []
def ro26 : List RO := [(.ldn 5 (zt 2))]
theorem ok26 : okFn Tryz.prog 26 20 ce26 = some (rc26,ro26) := by kernel_rfl
def rc27 : RC := (.seq (.run [za 2 (.const (.pointer none))])
  (.seq (.run [zr 3 (.mv (zt 0)),zr 4 (.mn (zt 3) (zi 4096)),zr 5 (.mx (zi 1) (zt 4)),zf 6 (.mks 5 1 (.int .u8 0) (zt 5) (zt 5)),zr 7 (.bld [(.slice none 0 0),(.int .i64 0),(.int .i64 0),(.int .i64 0)] [(0,1,(zt 6))]),zf 8 (.bx 112 (zt 7)),za 2 (zt 8)])
  .ret))
def ce27 : List (Nat × List Nat × List Nat) := []
def ro27 : List RO := [(.mv (zt 2))]
theorem ok27 : okFn Tryz.prog 27 9 ce27 = some (rc27,ro27) := by kernel_rfl
def rc28 : RC := (.seq (.run [za 2 (.const (.pointer none))])
  (.seq (.run [zr 4 (.bld [(.int .i64 0),(.int .i64 0),(.slice none 0 0)] []),zf 5 (.bx 115 (zt 4)),za 3 (zt 5)])
  (.seq (.run [zr 6 (.mv (zt 3)),zr 7 (.mv (zt 0)),zc 8 49 [(zt 6),(zt 7)]])
  (.seq (.run [zr 9 (.mv (zt 3)),za 2 (zt 9)])
  .ret))))
def ce28 : List (Nat × List Nat × List Nat) := []
def ro28 : List RO := [(.mv (zt 2))]
theorem ok28 : okFn Tryz.prog 28 10 ce28 = some (rc28,ro28) := by kernel_rfl
def rc29_0 : RC := (.seq (.block 1 (.seq (.run [zr 27 (.mv (zt 25)),zr 28 (.ia 5 (zt 23) (zt 25)),zr 29 (.ldn 5 (zt 28)),zf 8 (.al [(.string ⟨#[]⟩),(.int .i64 0),(.int .i64 0),(.int .u32 0),(.int .i64 0)] 56),za 7 (zt 27),ze (.st 5 (zt 8) (zt 29))])
  (.seq (.run [zr 30 (.mv (zt 1)),zr 31 (.mv (zt 7)),zr 32 (.ia 1 (zt 30) (zt 31)),zr 33 (.ld (zt 32)),zr 34 (.lenl (zt 33)),zr 35 (.fa 2 (zt 8)),zr 36 (.ld (zt 35)),zr 37 (.bin .neq (zt 34) (zt 36)),zr 38 (.mv (zt 37)),zg 39 38 false (.mv (zt 1)),zg 40 38 false (.mv (zt 7)),zg 41 38 false (.ia 1 (zt 39) (zt 40)),zg 42 38 false (.ld (zt 41)),zg 44 38 false (.fa 3 (zt 8)),zg 45 38 false (.ld (zt 44)),⟨(some 43),(some (38,false)),(.c (.fn 17 [(zt 42)])),[(45,(some (38,false)),.ld (zt 44))]⟩,zg 46 38 false (.bin .neq (zt 43) (zt 45)),zr 47 (.pick (zt 38) (.const (.bool true)) (zt 46))])
  (.cond (zt 47)
  (.seq (.run [zr 48 (.mki 44 (zi 12)),za 4 (zt 48)])
  .ret)
  .skip))))
  (.run [zr 49 (.bin .add (zt 25) (zi 1)),zr 25 (.mv (zt 49))]))
def rc29_1 : RC := (.seq (.run [zr 26 (.bin .lss (zt 25) (zt 24))])
  (.seq (.cond (zt 26)
  .skip
  (.exit 0))
  rc29_0))
def rc29_2 : RC := (.seq (.run [za 4 (.const .nilIface)])
  .ret)
def rc29_3 : RC := (.seq (.seq (.run [zr 23 (.mv (zt 0)),zr 24 (.lenl (zt 23)),zr 25 (.mv (zi 0))])
  (.block 0 (.loop rc29_1)))
  rc29_2)
def rc29_4 : RC := (.seq (.seq (.run [zr 17 (.mv (zt 1)),zr 18 (.lenl (zt 17)),zr 19 (.mv (zt 0)),zr 20 (.lenl (zt 19)),zr 21 (.bin .neq (zt 18) (zt 20))])
  (.cond (zt 21)
  (.seq (.run [zr 22 (.mki 44 (zi 12)),za 4 (zt 22)])
  .ret)
  .skip))
  rc29_3)
def rc29 : RC := (.seq (.run [za 4 (.const .nilIface)])
  (.seq (.seq (.run [zr 10 (.mv (zt 0)),zc 11 9 [(zt 10)],zr 9 (.mv (zt 11)),zr 12 (.ext 0 (zt 9)),zr 13 (.ext 1 (zt 9)),za 5 (zt 12),za 6 (zt 13)])
  (.seq (.run [zr 14 (.mv (zt 6)),zr 15 (.eq true (.iface []) (zt 14) (.const .nilIface))])
  (.cond (zt 15)
  (.seq (.run [zr 16 (.mv (zt 6)),za 4 (zt 16)])
  .ret)
  .skip)))
  rc29_4))
def ce29 : List (Nat × List Nat × List Nat) := [(9,[0,1,2,3,4,5,6,7,8,9,10,11,12,14,15,13,16,17],[0,0,3,7,15,0,32,127,255,511,511,2047,4095,8191,511,16895,65535,131071])]
def ro29 : List RO := [(.mv (zt 4))]
theorem ok29 : okFn Tryz.prog 29 50 ce29 = some (rc29,ro29) := by kernel_rfl
def rc30 : RC := (.seq (.run [zr 4 (.mv (zt 0)),zr 5 (.mv (zt 0)),zr 6 (.mv (zt 1)),zr 7 (.nck (zt 4)),zr 8 (.fa 7 (zt 7)),ze (.st 1 (zt 8) (zi 7)),zr 9 (.nck (zt 5)),zr 10 (.fa 19 (zt 9)),ze (.st 1 (zt 10) (zt 6))])
  (.run [zr 11 (.mv (zt 0)),zr 12 (.nck (zt 11)),zr 13 (.fa 15 (zt 12)),zr 14 (.ld (zt 13)),zc 15 49 [(zt 14),(zi 0)]]))
def ce30 : List (Nat × List Nat × List Nat) := []
def ro30 : List RO := []
theorem ok30 : okFn Tryz.prog 30 16 ce30 = some (rc30,ro30) := by kernel_rfl
def rc31_0 : RC := (.seq (.run [zr 23 (.mv (zt 4)),zr 24 (.mv (zt 4)),zc 25 50 [(zt 24)],za 2 (zt 23),za 3 (zt 25)])
  .ret)
def rc31 : RC := (.seq (.run [za 2 (.const (.pointer none)),za 3 (.const (.slice none 0 0))])
  (.seq (.run [zr 7 (.mv (zt 0)),zf 8 (.app 101 7 96 (.const (.slice none 0 0)) (zt 7)),zf 9 (.mkm),zr 10 (.bld [(.slice none 0 0),(.int .i64 0),(.map none),(.pointer none),(.int .i64 0),(.int .i64 0),(.int .i64 0),(.slice none 0 0)] [(0,1,(zt 8)),(2,1,(zt 9))]),zf 11 (.bx 121 (zt 10)),za 4 (zt 11)])
  (.seq (.seq (.run [zr 13 (.mv (zt 0)),zc 14 19 [(zt 13)],zr 12 (.mv (zt 14)),zr 15 (.ext 0 (zt 12)),zr 16 (.ext 1 (zt 12)),za 5 (zt 15),za 6 (zt 16)])
  (.seq (.run [zr 17 (.mv (zt 6)),zr 18 (.eq true (.iface []) (zt 17) (.const .nilIface))])
  (.cond (zt 18)
  (.seq (.run [zr 19 (.mv (zt 4)),zr 20 (.nck (zt 19)),zr 21 (.fa 6 (zt 20)),ze (.st 1 (zt 21) (zi 2))])
  (.seq (.run [zr 22 (.mv (zt 4)),za 2 (zt 22),za 3 (.const (.slice none 0 0))])
  .ret))
  .skip)))
  rc31_0)))
def ce31 : List (Nat × List Nat × List Nat) := []
def ro31 : List RO := [(.mv (zt 2)),(.mv (zt 3))]
theorem ok31 : okFn Tryz.prog 31 26 ce31 = some (rc31,ro31) := by kernel_rfl
def rc32 : RC := (.run [zr 4 (.mv (zt 0)),zr 5 (.mv (zt 0)),zr 6 (.nck (zt 5)),zr 7 (.fa 17 (zt 6)),zr 8 (.ld (zt 7)),zr 9 (.mv (zt 1)),zf 10 (.app 5 1 1 (zt 8) (zt 9)),zr 11 (.nck (zt 4)),zr 12 (.fa 17 (zt 11)),ze (.st 1 (zt 12) (zt 10))])
def ce32 : List (Nat × List Nat × List Nat) := []
def ro32 : List RO := []
theorem ok32 : okFn Tryz.prog 32 13 ce32 = some (rc32,ro32) := by kernel_rfl
def rc33 : RC := (.seq (.run [zr 2 (.mv (zt 0)),zr 3 (.nck (zt 2)),zr 4 (.fa 10 (zt 3)),zr 5 (.ld (zt 4)),zc 6 51 [(zt 5)]])
  (.block 0 (.seq (.run [zr 8 (.bin .eql (zt 6) (zi 1)),za 7 (zt 8)])
  (.cond (zt 7)
  (.run [zr 9 (.mv (zt 0)),zc 10 52 [(zt 9)]])
  (.seq (.run [zr 12 (.bin .eql (zt 6) (zi 2)),za 11 (zt 12)])
  (.cond (zt 11)
  (.run [zr 13 (.mv (zt 0)),zr 14 (.mki 44 (zi 11)),zc 15 30 [(zt 13),(zt 14)]])
  .skip))))))
def ce33 : List (Nat × List Nat × List Nat) := []
def ro33 : List RO := []
theorem ok33 : okFn Tryz.prog 33 16 ce33 = some (rc33,ro33) := by kernel_rfl
def rc34_0 : RC := (.seq (.block 1 (.seq (.run [zr 27 (.ia 1 (zt 23) (zt 25)),zr 28 (.ld (zt 27)),za 7 (zt 28)])
  (.seq (.run [zr 29 (.mv (zt 0)),zr 30 (.nck (zt 29)),zr 31 (.fa 0 (zt 30)),zr 32 (.ld (zt 31)),zr 33 (.mv (zt 0)),zr 34 (.nck (zt 33)),zr 35 (.fa 1 (zt 34)),zr 36 (.ld (zt 35)),zr 37 (.mv (zt 0)),zr 38 (.nck (zt 37)),zr 39 (.fa 2 (zt 38)),zr 40 (.ld (zt 39)),zr 41 (.bin .add (zt 36) (zt 40)),zr 42 (.mv (zt 0)),zr 43 (.nck (zt 42)),zr 44 (.fa 0 (zt 43)),zr 45 (.ld (zt 44)),zr 46 (.lenl (zt 45)),zr 47 (.bin .rem (zt 41) (zt 46)),zr 48 (.mv (zt 7)),zr 49 (.ia 1 (zt 32) (zt 47)),ze (.st 1 (zt 49) (zt 48))])
  (.run [zr 50 (.mv (zt 0)),zr 51 (.nck (zt 50)),zr 52 (.fa 2 (zt 51)),zr 53 (.ld (zt 52)),zr 54 (.bin .add (zt 53) (zi 1)),zr 55 (.nck (zt 50)),zr 56 (.fa 2 (zt 55)),ze (.st 1 (zt 56) (zt 54))]))))
  (.run [zr 57 (.bin .add (zt 25) (zi 1)),zr 25 (.mv (zt 57))]))
def rc34_1 : RC := (.seq (.run [zr 26 (.bin .lss (zt 25) (zt 24))])
  (.seq (.cond (zt 26)
  .skip
  (.exit 0))
  rc34_0))
def rc34_2 : RC := (.seq (.run [zr 58 (.mv (zt 0)),zr 59 (.nck (zt 58)),zr 60 (.fa 3 (zt 59)),zr 61 (.ld (zt 60)),zr 62 (.mv (zt 1)),zr 63 (.lenl (zt 62)),zr 64 (.mv (zt 5)),zr 65 (.bin .sub (zt 63) (zt 64)),zr 66 (.bin .add (zt 61) (zt 65)),zr 67 (.nck (zt 58)),zr 68 (.fa 3 (zt 67)),ze (.st 1 (zt 68) (zt 66))])
  (.seq (.run [zr 69 (.mv (zt 5)),za 4 (zt 69)])
  .ret))
def rc34 : RC := (.seq (.run [za 4 (zi 0)])
  (.seq (.run [zr 8 (.mv (zt 1)),zr 9 (.lenl (zt 8)),zr 10 (.mv (zt 0)),zr 11 (.nck (zt 10)),zr 12 (.fa 0 (zt 11)),zr 13 (.ld (zt 12)),zr 14 (.lenl (zt 13)),zr 15 (.mv (zt 0)),zr 16 (.nck (zt 15)),zr 17 (.fa 2 (zt 16)),zr 18 (.ld (zt 17)),zr 19 (.bin .sub (zt 14) (zt 18)),zr 20 (.mn (zt 9) (zt 19)),za 5 (zt 20)])
  (.seq (.seq (.run [zr 21 (.mv (zt 1)),zr 22 (.mv (zt 5)),zr 23 (.sl 1 (zt 21) none (some (zt 22))),zr 24 (.lenl (zt 23)),zr 25 (.mv (zi 0))])
  (.block 0 (.loop rc34_1)))
  rc34_2)))
def ce34 : List (Nat × List Nat × List Nat) := [(1,[0,1,2,3,4,5,6,7,8,9,10,11,12,13],[0,1,0,4,12,28,60,0,128,384,896,2044,4095,8191]),(5,[0,1,2,3,4,5,6,7,8,9,10,11,12,13,14,15,16,17,18,19,20,21],[0,1,3,7,0,16,48,112,0,256,768,1792,4080,0,8192,24576,57344,122880,262128,0,1048575,2097151])]
def ro34 : List RO := [(.mv (zt 4))]
theorem ok34 : okFn Tryz.prog 34 70 ce34 = some (rc34,ro34) := by kernel_rfl
def rc35 : RC := (.seq (.run [za 2 (zi 0)])
  (.seq (.run [zr 3 (.mv (zt 0)),zr 4 (.nck (zt 3)),zr 5 (.fa 3 (zt 4)),zr 6 (.ld (zt 5)),za 2 (zt 6)])
  .ret))
def ce35 : List (Nat × List Nat × List Nat) := []
def ro35 : List RO := [(.mv (zt 2))]
theorem ok35 : okFn Tryz.prog 35 7 ce35 = some (rc35,ro35) := by kernel_rfl
def rc37_0 : RC := (.seq (.block 1 (.seq (.run [zr 15 (.mv (zt 5)),zr 16 (.mv (zt 0)),zr 17 (.nck (zt 16)),zr 18 (.fa 0 (zt 17)),zr 19 (.ld (zt 18)),zr 20 (.mv (zt 0)),zr 21 (.nck (zt 20)),zr 22 (.fa 1 (zt 21)),zr 23 (.ld (zt 22)),zr 24 (.ia 1 (zt 19) (zt 23)),zr 25 (.ld (zt 24)),zf 26 (.bsl 5 1 1 [(.int .u8 0)] [(0,1,(zt 25))]),zf 27 (.app 5 1 1 (zt 15) (zt 26)),za 5 (zt 27)])
  (.seq (.run [zr 28 (.mv (zt 0)),zr 29 (.mv (zt 0)),zr 30 (.nck (zt 29)),zr 31 (.fa 1 (zt 30)),zr 32 (.ld (zt 31)),zr 33 (.bin .add (zt 32) (zi 1)),zr 34 (.mv (zt 0)),zr 35 (.nck (zt 34)),zr 36 (.fa 0 (zt 35)),zr 37 (.ld (zt 36)),zr 38 (.lenl (zt 37)),zr 39 (.bin .rem (zt 33) (zt 38)),zr 40 (.nck (zt 28)),zr 41 (.fa 1 (zt 40)),ze (.st 1 (zt 41) (zt 39))])
  (.run [zr 42 (.mv (zt 0)),zr 43 (.nck (zt 42)),zr 44 (.fa 2 (zt 43)),zr 45 (.ld (zt 44)),zr 46 (.bin .sub (zt 45) (zi 1)),zr 47 (.nck (zt 42)),zr 48 (.fa 2 (zt 47)),ze (.st 1 (zt 48) (zt 46))]))))
  (.run [zr 49 (.bin .add (zt 13) (zi 1)),zr 13 (.mv (zt 49))]))
def rc37_1 : RC := (.seq (.run [zr 14 (.bin .lss (zt 13) (zt 12))])
  (.seq (.cond (zt 14)
  .skip
  (.exit 0))
  rc37_0))
def rc37_2 : RC := (.seq (.run [zr 50 (.mv (zt 5)),za 4 (zt 50)])
  .ret)
def rc37 : RC := (.seq (.run [za 4 (.const (.slice none 0 0))])
  (.seq (.run [za 5 (.const (.slice none 0 0))])
  (.seq (.seq (.run [zr 6 (.mv (zt 1)),zr 7 (.mv (zt 0)),zr 8 (.nck (zt 7)),zr 9 (.fa 2 (zt 8)),zr 10 (.ld (zt 9)),zr 11 (.mn (zt 6) (zt 10)),zr 12 (.mx (zi 0) (zt 11)),zr 13 (.mv (zi 0))])
  (.block 0 (.loop rc37_1)))
  rc37_2)))
def ce37 : List (Nat × List Nat × List Nat) := [(4,[0,1,2,3,4,5,6,7,8,9,10,11,12,13],[0,0,2,6,14,0,32,96,224,510,1022,2046,4095,8191]),(5,[0,1,2,3,4,5,6,7,8,9,10,11,12,13,14],[0,0,2,6,14,30,0,64,192,448,960,2046,4095,8191,16383])]
def ro37 : List RO := [(.mv (zt 4))]
theorem ok37 : okFn Tryz.prog 37 51 ce37 = some (rc37,ro37) := by kernel_rfl
def rc38_0 : RC := (.cond (zt 39)
  .skip
  (.seq (.run [zr 43 (.bin .eql (zt 25) (zi 0)),za 42 (zt 43)])
  (.cond (zt 42)
  (.seq (.run [zr 44 (.mv (zt 0)),zr 45 (.mv (zt 0)),zr 46 (.nck (zt 45)),zr 47 (.fa 10 (zt 46)),zr 48 (.ld (zt 47)),zr 49 (.mv (zt 1)),zc 50 58 [(zt 48),(zt 49)],zc 51 32 [(zt 44),(zt 50)]])
  (.run [zr 52 (.mv (zt 0)),zc 53 33 [(zt 52)]]))
  (.seq (.run [zr 55 (.bin .eql (zt 25) (zi 1)),za 54 (zt 55)])
  (.cond (zt 54)
  (.seq (.run [zr 56 (.mv (zt 0)), zr 57 (.mv (zt 0)), zr 58 (.nck (zt 57)), zr 59 (.fa 11 (zt 58)), zr 60 (.ld (zt 59)), zr 61 (.mv (zt 1)), ⟨(some 62), none, (.c (.inv (zt 60) "Put" [(zt 61)])), []⟩, zc 63 32 [(zt 56), (zt 62)]])
  (.run [zr 64 (.mv (zt 0)),zc 65 40 [(zt 64)]]))
  (.seq (.run [zr 27 (.mv (zt 0)),zr 28 (.nck (zt 27)),zr 29 (.fa 12 (zt 28)),zr 30 (.ld (zt 29)),zr 31 (.mv (zt 1)),zc 32 59 [(zt 30),(zt 31)],zr 26 (.mv (zt 32)),zr 33 (.ext 0 (zt 26)),zr 34 (.ext 1 (zt 26)),za 4 (zt 33),za 5 (zt 34)])
  (.seq (.run [zr 35 (.mv (zt 5))])
  (.cond (zt 35)
  (.run [zr 36 (.mv (zt 0)),zr 37 (.mv (zt 4)),zc 38 60 [(zt 36),(zt 37)]])
  .skip))))))))
def rc38 : RC := (.seq (.run [zr 6 (.mv (zt 0)),zr 7 (.mv (zt 0)),zr 8 (.nck (zt 7)),zr 9 (.fa 16 (zt 8)),zr 10 (.ld (zt 9)),zr 11 (.mv (zt 1)),zf 12 (.bsl 5 1 1 [(.int .u8 0)] [(0,1,(zt 11))]),zf 13 (.app 5 1 1 (zt 10) (zt 12)),zr 14 (.nck (zt 6)),zr 15 (.fa 16 (zt 14)),ze (.st 1 (zt 15) (zt 13))])
  (.seq (.run [zr 16 (.mv (zt 0)),zr 17 (.nck (zt 16)),zr 18 (.fa 15 (zt 17)),zr 19 (.ld (zt 18)),zr 20 (.mv (zt 1)),zc 21 57 [(zt 19),(zt 20)]])
  (.seq (.run [zr 22 (.mv (zt 0)),zr 23 (.nck (zt 22)),zr 24 (.fa 7 (zt 23)),zr 25 (.ld (zt 24))])
  (.block 0 (.seq (.seq (.run [zr 40 (.bin .eql (zt 25) (zi 7)),za 39 (zt 40)])
  (.cond (zt 39)
  .skip
  (.run [zr 41 (.bin .eql (zt 25) (zi 5)),za 39 (zt 41)])))
  rc38_0)))))
def ce38 : List (Nat × List Nat × List Nat) := []
def ro38 : List RO := []
theorem ok38 : okFn Tryz.prog 38 66 ce38 = some (rc38,ro38) := by kernel_rfl
def rc39_0 : RC := (.seq (.run [zr 27 (.mv (zt 0)),zr 28 (.nck (zt 27)),zr 29 (.fa 3 (zt 28)),ze (.st 1 (zt 29) (.const (.pointer none)))])
  (.seq (.run [zr 30 (.mv (zt 0)),zr 31 (.mv (zt 0)),zr 32 (.nck (zt 31)),zr 33 (.fa 0 (zt 32)),zr 34 (.ld (zt 33)),zr 35 (.mv (zt 0)),zr 36 (.nck (zt 35)),zr 37 (.fa 1 (zt 36)),zr 38 (.ld (zt 37)),zr 39 (.ia 7 (zt 34) (zt 38)),zr 40 (.fa 5 (zt 39)),zr 41 (.ld (zt 40)),zc 42 61 [(zt 30),(zt 41)]])
  (.seq (.run [zr 43 (.mv (zt 0)),zc 44 50 [(zt 43)],za 2 (zt 44)])
  .ret)))
def rc39_1 : RC := (.seq (.run [zr 15 (.mv (zt 0)),zr 16 (.nck (zt 15)),zr 17 (.fa 4 (zt 16)),zr 18 (.ld (zt 17)),zr 19 (.bin .sub (zt 18) (zi 1)),zr 20 (.nck (zt 15)),zr 21 (.fa 4 (zt 20)),ze (.st 1 (zt 21) (zt 19))])
  (.seq (.seq (.run [zr 22 (.mv (zt 0)),zr 23 (.nck (zt 22)),zr 24 (.fa 4 (zt 23)),zr 25 (.ld (zt 24)),zr 26 (.bin .gtr (zt 25) (zi 0))])
  (.cond (zt 26)
  (.seq (.run [za 2 (.const (.slice none 0 0))])
  .ret)
  .skip))
  rc39_0))
def rc39 : RC := (.seq (.run [za 2 (.const (.slice none 0 0))])
  (.seq (.seq (.run [zr 3 (.mv (zt 0)),zr 4 (.nck (zt 3)),zr 5 (.fa 6 (zt 4)),zr 6 (.ld (zt 5)),zr 7 (.bin .neq (zt 6) (zi 0)),zr 8 (.mv (zt 7)),zg 9 8 false (.mv (zt 0)),zg 10 8 false (.nck (zt 9)),zg 11 8 false (.fa 3 (zt 10)),zg 12 8 false (.ld (zt 11)),zg 13 8 false (.eq false .ptr (zt 12) (.const (.pointer none))),zr 14 (.pick (zt 8) (.const (.bool true)) (zt 13))])
  (.cond (zt 14)
  (.seq (.run [za 2 (.const (.slice none 0 0))])
  .ret)
  .skip))
  rc39_1))
def ce39 : List (Nat × List Nat × List Nat) := [(7,[0,1,2,3,4,5,6,7,8,9,10,11,12],[0,0,2,6,14,0,32,96,224,510,1022,2046,4095])]
def ro39 : List RO := [(.mv (zt 2))]
theorem ok39 : okFn Tryz.prog 39 45 ce39 = some (rc39,ro39) := by kernel_rfl
def rc40 : RC := (.seq (.run [zr 5 (.mv (zt 0)), zr 6 (.nck (zt 5)), zr 7 (.fa 11 (zt 6)), zr 8 (.ld (zt 7)), ⟨(some 9), none, (.c (.inv (zt 8) "Done" [])), []⟩, zr 4 (.mv (zt 9)), zr 10 (.ext 0 (zt 4)), zr 11 (.ext 1 (zt 4)), za 2 (zt 10), za 3 (zt 11)])
  (.block 0 (.seq (.run [zr 16 (.mv (zt 2)),zr 17 (.not (zt 16)),za 15 (zt 17)])
  (.cond (zt 15)
  .skip
  (.seq (.run [zr 19 (.mv (zt 3)),zr 20 (.eq true (.iface []) (zt 19) (.const .nilIface)),za 18 (zt 20)])
  (.cond (zt 18)
  (.run [zr 21 (.mv (zt 0)),zr 22 (.mv (zt 3)),zc 23 62 [(zt 21),(zt 22)]])
  (.run [zr 12 (.mv (zt 0)),zf 13 (.bsl 9 1 1 [(.string ⟨#[]⟩)] [(0,1,(.const (.string ⟨#[61,62,32]⟩)))]),zc 14 63 [(zt 12),(zi 2),(zt 13)]])))))))
def ce40 : List (Nat × List Nat × List Nat) := []
def ro40 : List RO := []
theorem ok40 : okFn Tryz.prog 40 24 ce40 = some (rc40,ro40) := by kernel_rfl
def rc42_0 : RC := (.seq (.block 1 (.seq (.run [zr 10 (.ia 1 (zt 6) (zt 8)),zr 11 (.ld (zt 10)),za 5 (zt 11)])
  (.seq (.run [zr 12 (.mv (zt 0)),zr 13 (.mv (zt 0)),zr 14 (.nck (zt 13)),zr 15 (.fa 0 (zt 14)),zr 16 (.ld (zt 15)),zr 17 (.mv (zt 5)),zr 18 (.cvi .u32 (zt 17)),zr 19 (.bin .add (zt 16) (zt 18)),zr 20 (.bin .rem (zt 19) (.const (.int .u32 65521))),zr 21 (.nck (zt 12)),zr 22 (.fa 0 (zt 21)),ze (.st 1 (zt 22) (zt 20))])
  (.run [zr 23 (.mv (zt 0)),zr 24 (.mv (zt 0)),zr 25 (.nck (zt 24)),zr 26 (.fa 1 (zt 25)),zr 27 (.ld (zt 26)),zr 28 (.mv (zt 0)),zr 29 (.nck (zt 28)),zr 30 (.fa 0 (zt 29)),zr 31 (.ld (zt 30)),zr 32 (.bin .add (zt 27) (zt 31)),zr 33 (.bin .add (zt 32) (.const (.int .u32 1))),zr 34 (.bin .rem (zt 33) (.const (.int .u32 65521))),zr 35 (.nck (zt 23)),zr 36 (.fa 1 (zt 35)),ze (.st 1 (zt 36) (zt 34))]))))
  (.run [zr 37 (.bin .add (zt 8) (zi 1)),zr 8 (.mv (zt 37))]))
def rc42_1 : RC := (.seq (.run [zr 9 (.bin .lss (zt 8) (zt 7))])
  (.seq (.cond (zt 9)
  .skip
  (.exit 0))
  rc42_0))
def rc42 : RC := (.seq (.run [zr 6 (.mv (zt 1)),zr 7 (.lenl (zt 6)),zr 8 (.mv (zi 0))])
  (.block 0 (.loop rc42_1)))
def ce42 : List (Nat × List Nat × List Nat) := [(4,[0,1,2,3,4,5,6,7,8,9,10,11,12,13,14],[0,0,2,6,14,0,32,96,224,510,1022,2046,4095,8191,16383])]
def ro42 : List RO := []
theorem ok42 : okFn Tryz.prog 42 38 ce42 = some (rc42,ro42) := by kernel_rfl
def rc43 : RC := (.seq (.run [za 2 (.const (.int .u32 0))])
  (.seq (.run [zr 3 (.mv (zt 0)),zr 4 (.nck (zt 3)),zr 5 (.fa 1 (zt 4)),zr 6 (.ld (zt 5)),zr 7 (.bin .shl (zt 6) (.const (.int .u64 16))),zr 8 (.mv (zt 0)),zr 9 (.nck (zt 8)),zr 10 (.fa 0 (zt 9)),zr 11 (.ld (zt 10)),zr 12 (.bin .or (zt 7) (zt 11)),za 2 (zt 12)])
  .ret))
def ce43 : List (Nat × List Nat × List Nat) := [(1,[0,1,2,3,4,5,6,7,8,9,10],[0,1,3,7,15,0,32,96,224,511,1023])]
def ro43 : List RO := [(.mv (zt 2))]
theorem ok43 : okFn Tryz.prog 43 13 ce43 = some (rc43,ro43) := by kernel_rfl
def rc44_0 : RC := (.seq (.block 1 (.seq (.run [zr 11 (.mv (zt 9)),zr 12 (.ia 7 (zt 7) (zt 9)),zr 13 (.ldn 7 (zt 12)),zf 6 (.al [(.string ⟨#[]⟩),(.int .i64 0),(.string ⟨#[]⟩),(.slice none 0 0),(.int .i64 0),(.string ⟨#[]⟩),(.int .i64 0)] 101),za 5 (zt 11),ze (.st 7 (zt 6) (zt 13))])
  (.seq (.run [zr 14 (.fa 0 (zt 6)),zr 15 (.ld (zt 14)),zr 16 (.mv (zt 1)),zr 17 (.bin .eql (zt 15) (zt 16)),zr 18 (.mv (zt 17)),zg 19 18 true (.mv (zt 1)),zg 20 18 true (.bin .neq (zt 19) (.const (.string ⟨#[]⟩))),zr 21 (.pick (zt 18) (zt 20) (.const (.bool false)))])
  (.cond (zt 21)
  (.seq (.run [zr 22 (.mv (zt 5)),za 4 (zt 22)])
  .ret)
  .skip))))
  (.run [zr 23 (.bin .add (zt 9) (zi 1)),zr 9 (.mv (zt 23))]))
def rc44_1 : RC := (.seq (.run [zr 10 (.bin .lss (zt 9) (zt 8))])
  (.seq (.cond (zt 10)
  .skip
  (.exit 0))
  rc44_0))
def rc44_2 : RC := (.seq (.run [za 4 (zi (-1))])
  .ret)
def rc44 : RC := (.seq (.run [za 4 (zi 0)])
  (.seq (.seq (.run [zr 7 (.mv (zt 0)),zr 8 (.lenl (zt 7)),zr 9 (.mv (zi 0))])
  (.block 0 (.loop rc44_1)))
  rc44_2))
def ce44 : List (Nat × List Nat × List Nat) := []
def ro44 : List RO := [(.mv (zt 4))]
theorem ok44 : okFn Tryz.prog 44 24 ce44 = some (rc44,ro44) := by kernel_rfl
def rc45_0 : RC := (.seq (.run [zr 38 (.ldn 6 (zt 7)),zc 39 65 [(zt 38)],za 9 (zt 39)])
  (.seq (.seq (.run [zr 40 (.mv (zt 9)),zc 41 66 [(zt 40)]])
  (.cond (zt 41)
  (.seq (.run [zr 42 (.mki 44 (zi 8)),za 2 (.const (.pointer none)),za 3 (zt 42)])
  .ret)
  .skip))
  (.run [zr 43 (.mv (zt 4)),zr 44 (.mv (zt 4)),zr 45 (.nck (zt 44)),zr 46 (.fa 0 (zt 45)),zr 47 (.ld (zt 46)),zr 48 (.mv (zt 9)),zf 49 (.bsl 156 1 1 [(.pointer none)] [(0,1,(zt 48))]),zf 50 (.app 156 1 8 (zt 47) (zt 49)),zr 51 (.nck (zt 43)),zr 52 (.fa 0 (zt 51)),ze (.st 1 (zt 52) (zt 50))])))
def rc45_1 : RC := (.seq (.block 1 (.seq (.run [zr 28 (.ia 1 (zt 24) (zt 26)),zr 29 (.ld (zt 28)),za 6 (zt 29)])
  (.seq (.run [zr 31 (.mv (zt 6)),zc 32 64 [(zt 31)],zr 30 (.mv (zt 32)),zr 33 (.ext 0 (zt 30)),zr 34 (.ext 1 (zt 30)),zf 7 (.al [(.int .i64 0),(.int .u64 0),(.int .u64 0),(.int .u64 0),(.int .u64 0),(.slice none 0 0)] 153),ze (.st 6 (zt 7) (zt 33)),za 8 (zt 34)])
  (.seq (.seq (.run [zr 35 (.mv (zt 8)),zr 36 (.eq true (.iface []) (zt 35) (.const .nilIface))])
  (.cond (zt 36)
  (.seq (.run [zr 37 (.mv (zt 8)),za 2 (.const (.pointer none)),za 3 (zt 37)])
  .ret)
  .skip))
  rc45_0))))
  (.run [zr 53 (.bin .add (zt 26) (zi 1)),zr 26 (.mv (zt 53))]))
def rc45_2 : RC := (.seq (.run [zr 27 (.bin .lss (zt 26) (zt 25))])
  (.seq (.cond (zt 27)
  .skip
  (.exit 0))
  rc45_1))
def rc45_3 : RC := (.seq (.run [zr 54 (.mv (zt 4)),za 2 (zt 54),za 3 (.const .nilIface)])
  .ret)
def rc45_4 : RC := (.seq (.run [zr 19 (.mv (zt 0)),zr 20 (.lenl (zt 19)),zf 21 (.mks 186 24 (.slice none 0 0) (zt 20) (zt 20)),zr 22 (.bld [(.slice none 0 0),(.slice none 0 0),(.int .i64 0),(.bool false)] [(1,1,(zt 21))]),zf 23 (.bx 146 (zt 22)),za 4 (zt 23)])
  (.seq (.seq (.run [zr 24 (.mv (zt 0)),zr 25 (.lenl (zt 24)),zr 26 (.mv (zi 0))])
  (.block 0 (.loop rc45_2)))
  rc45_3))
def rc45 : RC := (.seq (.run [za 2 (.const (.pointer none)),za 3 (.const .nilIface)])
  (.seq (.seq (.run [zr 10 (.mv (zt 0)),zr 11 (.lenl (zt 10)),zr 12 (.bin .eql (zt 11) (zi 0)),zr 13 (.mv (zt 12)),zg 14 13 false (.mv (zt 0)),zg 15 13 false (.lenl (zt 14)),zg 16 13 false (.bin .gtr (zt 15) (zi 8)),zr 17 (.pick (zt 13) (.const (.bool true)) (zt 16))])
  (.cond (zt 17)
  (.seq (.run [zr 18 (.mki 44 (zi 7)),za 2 (.const (.pointer none)),za 3 (zt 18)])
  .ret)
  .skip))
  rc45_4))
def ce45 : List (Nat × List Nat × List Nat) := []
def ro45 : List RO := [(.mv (zt 2)),(.mv (zt 3))]
theorem ok45 : okFn Tryz.prog 45 55 ce45 = some (rc45,ro45) := by kernel_rfl
def rc46 : RC := (.seq (.run [za 0 (.const (.slice none 0 0))])
  (.seq (.run [zf 1 (.bsl 9 1 4 [(.string ⟨#[]⟩),(.string ⟨#[]⟩),(.string ⟨#[]⟩),(.string ⟨#[]⟩)] [(0,1,(.const (.string ⟨#[99,104,101,99,107]⟩))),(1,1,(.const (.string ⟨#[99,114,99]⟩))),(2,1,(.const (.string ⟨#[108,97,114,103,101]⟩))),(3,1,(.const (.string ⟨#[98,97,116,99,104]⟩)))]),za 0 (zt 1)])
  .ret))
def ce46 : List (Nat × List Nat × List Nat) := []
def ro46 : List RO := [(.mv (zt 0))]
theorem ok46 : okFn Tryz.prog 46 2 ce46 = some (rc46,ro46) := by kernel_rfl
def rc47 : RC := (.seq (.run [za 4 (.const (.string ⟨#[]⟩))])
  (.seq (.run [zr 5 (.mv (zt 0)),zr 6 (.mv (zt 1)),zc 7 67 [(zt 5),(zt 6)],za 4 (zt 7)])
  .ret))
def ce47 : List (Nat × List Nat × List Nat) := []
def ro47 : List RO := [(.mv (zt 4))]
theorem ok47 : okFn Tryz.prog 47 8 ce47 = some (rc47,ro47) := by kernel_rfl
def rc48_0 : RC := (.run [⟨(some 8),none,(.c (.fn 68 [(zt 7)])),[(17,none,.ld (zt 16)),(22,none,.ld (zt 21)),(24,none,.ld (zt 23))]⟩,zr 13 (.bin .add (zt 8) (zt 12)),zr 27 (.bld [(.string ⟨#[]⟩),(.int .i64 0),(.int .i64 0),(.int .u32 0),(.int .i64 0)] [(0,1,(zt 13)),(1,1,(zt 15)),(2,1,(zt 20)),(3,1,(zt 22)),(4,1,(zt 26))]),⟨(some 5),none,(.e (.al [(.string ⟨#[]⟩),(.int .i64 0),(.int .i64 0),(.int .u32 0),(.int .i64 0)] 56)),[(7,none,.ld (zt 6)),(17,none,.ld (zt 16)),(22,none,.ld (zt 21)),(24,none,.ld (zt 23))]⟩,ze (.st 5 (zt 5) (zt 27))])
def rc48_1 : RC := (.run [⟨(some 5),none,(.e (.al [(.string ⟨#[]⟩),(.int .i64 0),(.int .i64 0),(.int .u32 0),(.int .i64 0)] 56)),[(7,none,.ld (zt 6)),(17,none,.ld (zt 16)),(22,none,.ld (zt 21)),(24,none,.ld (zt 23))]⟩,⟨(some 8),none,(.c (.fn 68 [(zt 7)])),[(17,none,.ld (zt 16)),(22,none,.ld (zt 21)),(24,none,.ld (zt 23))]⟩,zr 13 (.bin .add (zt 8) (zt 12)),zr 27 (.bld [(.string ⟨#[]⟩),(.int .i64 0),(.int .i64 0),(.int .u32 0),(.int .i64 0)] [(0,1,(zt 13)),(1,1,(zt 15)),(2,1,(zt 20)),(3,1,(zt 22)),(4,1,(zt 26))]),ze (.st 5 (zt 5) (zt 27))])
def rc48_2 : RC := (.seq (.run [zr 36 (.ldn 5 (zt 5)),ze (.st 5 (zt 4) (zt 36))])
  .ret)
def rc48_3 : RC := (.seq (.seq (.run [zr 28 (.fa 1 (zt 2)),zr 29 (.ld (zt 28)),zr 30 (.bin .rem (zt 29) (.const (.int .u16 8))),zr 31 (.bin .eql (zt 30) (.const (.int .u16 7)))])
  (.cond (zt 31)
  (.run [zr 32 (.fa 1 (zt 2)),zr 33 (.ld (zt 32)),zr 34 (.cvi .i64 (zt 33)),zr 35 (.fa 1 (zt 5)),ze (.st 1 (zt 35) (zt 34))])
  .skip))
  rc48_2)
def rc48 : RC := (.seq (.run [zf 2 (.bx 64 (zt 0)),zf 4 (.al [(.string ⟨#[]⟩),(.int .i64 0),(.int .i64 0),(.int .u32 0),(.int .i64 0)] 56)])
  (.seq (.sem (.fork [zr 6 (.fa 0 (zt 2)),zr 7 (.ld (zt 6)),zr 9 (.mv (zt 1)),zr 10 (.bin .add (zi 97) (zt 9)),zr 11 (.cvi .i32 (zt 10)),zr 12 (.i2s (zt 11)),zr 14 (.mv (zt 1)),zr 15 (.bin .mul (zt 14) (zi 2048)),zr 16 (.fa 2 (zt 2)),zr 17 (.ld (zt 16)),zr 18 (.cvi .i64 (zt 17)),zr 19 (.bin .rem (zt 18) (zi 600)),zr 20 (.bin .add (zi 1) (zt 19)),zr 21 (.fa 3 (zt 2)),zr 22 (.ld (zt 21)),zr 23 (.fa 4 (zt 2)),zr 24 (.ld (zt 23)),zr 25 (.bin .rem (zt 24) (.const (.int .u8 4))),zr 26 (.cvi .i64 (zt 25))]
  rc48_0
  rc48_1))
  rc48_3))
def ce48 : List (Nat × List Nat × List Nat) := [(1,[0,1,3,4,5,6,8,9,10,11,12,13,14,15,16,17,18,19,20,1000,2,7,21,22,23,1001,22,2,7,21,23],[0,1,3,0,8,24,56,127,0,256,0,1024,3072,7168,15360,0,32768,0,131072,393216,917504,2097151,0,8388607])]
def ro48 : List RO := [(.ldn 5 (zt 4))]
theorem ok48 : okFn Tryz.prog 48 37 ce48 = some (rc48,ro48) := by kernel_rfl
def rc49 : RC := (.seq (.seq (.run [zr 4 (.mv (zt 1)),zr 5 (.bin .neq (zt 4) (zi 1)),zr 6 (.mv (zt 5)),zg 7 6 true (.mv (zt 1)),zg 8 6 true (.bin .neq (zt 7) (zi 2)),zr 9 (.pick (zt 6) (zt 8) (.const (.bool false)))])
  (.cond (zt 9)
  (.run [za 1 (zi 0)])
  .skip))
  (.run [zr 10 (.mv (zt 0)),zr 11 (.mv (zt 1)),zr 12 (.nck (zt 10)),zr 13 (.fa 0 (zt 12)),ze (.st 1 (zt 13) (zt 11))]))
def ce49 : List (Nat × List Nat × List Nat) := []
def ro49 : List RO := []
theorem ok49 : okFn Tryz.prog 49 14 ce49 = some (rc49,ro49) := by kernel_rfl
def rc50_0 : RC := (.seq (.block 1 (.seq (.seq (.run [zr 19 (.mv (zt 4)),zr 20 (.bin .eql (zt 19) (zi 256)),zr 21 (.mv (zt 20)),zg 22 21 false (.mv (zt 0)),zg 23 21 false (.nck (zt 22)),zg 24 21 false (.fa 1 (zt 23)),zg 25 21 false (.ld (zt 24)),zg 26 21 false (.mv (zt 0)),zg 27 21 false (.nck (zt 26)),zg 28 21 false (.fa 0 (zt 27)),zg 29 21 false (.ld (zt 28)),zg 30 21 false (.lenl (zt 29)),zg 31 21 false (.bin .geq (zt 25) (zt 30)),zr 32 (.pick (zt 21) (.const (.bool true)) (zt 31))])
  (.cond (zt 32)
  (.seq (.run [zr 33 (.mv (zt 0)),zr 34 (.nck (zt 33)),zr 35 (.fa 6 (zt 34)),ze (.st 1 (zt 35) (zi 2))])
  (.exit 0))
  .skip))
  (.run [zr 36 (.mv (zt 3)),zr 37 (.mv (zt 0)),zr 38 (.mv (zt 0)),zr 39 (.nck (zt 38)),zr 40 (.fa 0 (zt 39)),zr 41 (.ld (zt 40)),zr 42 (.mv (zt 0)),zr 43 (.nck (zt 42)),zr 44 (.fa 1 (zt 43)),zr 45 (.ld (zt 44)),zr 46 (.ia 7 (zt 41) (zt 45)),zr 47 (.ldn 7 (zt 46)),zc 48 69 [(zt 37),(zt 47)],zf 49 (.app 5 1 1 (zt 36) (zt 48)),za 3 (zt 49)])))
  (.run [zr 17 (.mv (zt 4)),zr 18 (.bin .add (zt 17) (zi 1)),za 4 (zt 18)]))
def rc50_1 : RC := (.seq (.seq (.run [zr 5 (.mv (zt 0)),zr 6 (.nck (zt 5)),zr 7 (.fa 6 (zt 6)),zr 8 (.ld (zt 7)),zr 9 (.bin .eql (zt 8) (zi 0)),zr 10 (.mv (zt 9)),zg 11 10 true (.mv (zt 0)),zg 12 10 true (.nck (zt 11)),zg 13 10 true (.fa 3 (zt 12)),zg 14 10 true (.ld (zt 13)),zg 15 10 true (.eq false .ptr (zt 14) (.const (.pointer none))),zr 16 (.pick (zt 10) (zt 15) (.const (.bool false)))])
  (.cond (zt 16)
  .skip
  (.exit 0)))
  rc50_0)
def rc50_2 : RC := (.seq (.run [zr 50 (.mv (zt 3)),za 2 (zt 50)])
  .ret)
def rc50 : RC := (.seq (.run [za 2 (.const (.slice none 0 0))])
  (.seq (.run [za 3 (.const (.slice none 0 0))])
  (.seq (.seq (.run [za 4 (zi 0)])
  (.block 0 (.loop rc50_1)))
  rc50_2)))
def ce50 : List (Nat × List Nat × List Nat) := [(5,[0,1,2,3,4,5,6,7,8,9,10,11,12,13],[0,1,3,7,15,31,63,7,135,391,903,1927,4095,8191]),(7,[0,1,2,3,4,5,6,7,8,9,10,11,12,13,14],[0,0,0,4,12,28,0,64,192,448,1020,2044,4094,8191,16383])]
def ro50 : List RO := [(.mv (zt 2))]
theorem ok50 : okFn Tryz.prog 50 51 ce50 = some (rc50,ro50) := by kernel_rfl
def rc51 : RC := (.seq (.run [za 2 (zi 0)])
  (.seq (.run [zr 3 (.mv (zt 0)),zr 4 (.nck (zt 3)),zr 5 (.fa 6 (zt 4)),zr 6 (.ld (zt 5)),za 2 (zt 6)])
  .ret))
def ce51 : List (Nat × List Nat × List Nat) := []
def ro51 : List RO := [(.mv (zt 2))]
theorem ok51 : okFn Tryz.prog 51 7 ce51 = some (rc51,ro51) := by kernel_rfl
def rc52_0 : RC := (.seq (.run [zr 59 (.mv (zt 0)),zr 60 (.nck (zt 59)),zr 61 (.fa 6 (zt 60)),zr 62 (.ld (zt 61)),zr 63 (.mv (zt 0)),zr 64 (.nck (zt 63)),zr 65 (.fa 8 (zt 64)),zr 66 (.ld (zt 65)),zr 67 (.ia 1 (zt 62) (zt 66)),zr 68 (.ld (zt 67)),zr 69 (.fa 4 (zt 2)),zr 70 (.ld (zt 69)),zr 71 (.bin .eql (zt 70) (zi 2)),zc 72 71 [(zt 68),(zt 71)],za 3 (zt 72)])
  (.run [zr 73 (.mv (zt 0)),zr 74 (.mv (zt 0)),zr 75 (.nck (zt 74)),zr 76 (.fa 0 (zt 75)),zr 77 (.fa 0 (zt 76)),zr 78 (.ldn 2 (zt 77)),zr 79 (.mv (zt 3)),zr 81 (.fa 4 (zt 2)),zr 82 (.ld (zt 81)),zr 83 (.bin .neq (zt 82) (zi 0)),⟨(some 80),none,(.c (.fn 73 [(zt 79)])),[(78,none,.ldn 2 (zt 77)),(82,none,.ld (zt 81))]⟩,zc 84 72 [(zt 78),(zt 80),(zt 83),(.const (.bool true))],zr 85 (.mki 166 (zt 84)),zr 86 (.nck (zt 73)),zr 87 (.fa 11 (zt 86)),ze (.st 1 (zt 87) (zt 85))]))
def rc52 : RC := (.seq (.run [zr 4 (.mv (zt 0)),zr 5 (.nck (zt 4)),zr 6 (.fa 5 (zt 5)),zr 7 (.ld (zt 6)),zr 8 (.mv (zt 0)),zr 9 (.nck (zt 8)),zr 10 (.fa 8 (zt 9)),zr 11 (.ld (zt 10)),zr 12 (.ia 5 (zt 7) (zt 11)),zr 13 (.ldn 5 (zt 12)),⟨(some 2),none,(.e (.al [(.string ⟨#[]⟩),(.int .i64 0),(.int .i64 0),(.int .u32 0),(.int .i64 0)] 56)),[(7,none,.ld (zt 6)),(11,none,.ld (zt 10)),(13,none,.ldn 5 (zt 12))]⟩,ze (.st 5 (zt 2) (zt 13))])
  (.seq (.run [zr 14 (.mv (zt 0)),zr 15 (.fa 4 (zt 2)),zr 16 (.ld (zt 15)),zr 17 (.fa 1 (zt 2)),zr 18 (.ld (zt 17)),zc 19 21 [(zt 16),(zt 18)],zf 20 (.s2b 5 (zt 19)),zc 21 32 [(zt 14),(zt 20)]])
  (.seq (.run [zr 22 (.mv (zt 0)),zr 23 (.nck (zt 22)),zr 24 (.fa 7 (zt 23)),ze (.st 1 (zt 24) (zi 1))])
  (.seq (.run [zr 25 (.mv (zt 0)),zr 26 (.nck (zt 25)),zr 27 (.fa 15 (zt 26)),zr 28 (.ld (zt 27)),zc 29 49 [(zt 28),(zi 2)]])
  (.seq (.seq (.run [zr 30 (.fa 4 (zt 2)),zr 31 (.ld (zt 30)),zr 32 (.bin .eql (zt 31) (zi 3))])
  (.cond (zt 32)
  (.seq (.run [zr 34 (.mv (zt 0)),zr 35 (.mv (zt 0)),zr 36 (.nck (zt 35)),zr 37 (.fa 0 (zt 36)),zr 38 (.fa 0 (zt 37)),zr 39 (.ldn 2 (zt 38)),zr 40 (.fa 0 (zt 2)),zr 41 (.ld (zt 40)),zr 42 (.bld [(.string ⟨#[]⟩),(.int .i64 0),(.int .i64 0),(.int .i64 0)] [(0,1,(zt 41))]),zr 43 (.mv (zt 0)),zr 44 (.nck (zt 43)),zr 45 (.fa 6 (zt 44)),zr 46 (.ld (zt 45)),zr 47 (.mv (zt 0)),zr 48 (.nck (zt 47)),zr 49 (.fa 8 (zt 48)),zr 50 (.ld (zt 49)),zr 51 (.ia 1 (zt 46) (zt 50)),zr 52 (.ld (zt 51)),zc 53 70 [(zt 39),(zt 42),(zt 52)],zr 33 (.mv (zt 53)),zr 54 (.ext 0 (zt 33)),zr 55 (.mki 160 (zt 54)),zr 56 (.ext 1 (zt 33)),zr 57 (.nck (zt 34)),zr 58 (.fa 11 (zt 57)),ze (.st 1 (zt 58) (zt 55))])
  .ret)
  .skip))
  rc52_0)))))
def ce52 : List (Nat × List Nat × List Nat) := [(0,[0,1,2,3,4,5,6,7,8,9,10,11],[0,1,3,7,0,16,48,112,255,511,0,2047]),(5,[0,1,2,3,4,5,6,7,8,9,10,11,12,13,14,15,16,17,18,19,20,21,22,23,24,25,26],[0,0,2,6,14,30,0,64,192,0,512,1536,3584,0,8192,24576,57344,130560,261632,524286,1048574,2097150,4194302,2097150,8388607,25165823,58720255]),(6,[0,1,2,3,4,5,6,7,8,9,10,11,12,13,14],[0,1,3,7,0,16,48,112,255,511,0,1024,3072,8191,16383]),(7,[0,1,2,3,4,5,6,8,9,10,7,11,12,13,14,15],[0,0,2,6,14,30,0,64,0,256,768,2046,4094,8191,16383,32767])]
def ro52 : List RO := []
theorem ok52 : okFn Tryz.prog 52 88 ce52 = some (rc52,ro52) := by kernel_rfl
def rc57_0 : RC := (.seq (.run [zr 49 (.mv (zt 0)),zr 50 (.nck (zt 49)),zr 51 (.fa 2 (zt 50)),zr 52 (.ld (zt 51)),zr 53 (.mv (zt 5)),zr 54 (.ia 3 (zt 52) (zt 53)),zr 55 (.fa 2 (zt 54)),zr 56 (.ld (zt 55)),zr 57 (.bin .add (zt 56) (zi 1)),zr 58 (.ia 3 (zt 52) (zt 53)),zr 59 (.fa 2 (zt 58)),ze (.st 1 (zt 59) (zt 57))])
  (.seq (.run [zr 60 (.mv (zt 0)),zr 61 (.nck (zt 60)),zr 62 (.fa 1 (zt 61)),zr 63 (.ld (zt 62)),zr 64 (.bin .add (zt 63) (zi 1)),zr 65 (.nck (zt 60)),zr 66 (.fa 1 (zt 65)),ze (.st 1 (zt 66) (zt 64))])
  (.seq (.run [zr 67 (.mv (zt 0)),zr 68 (.nck (zt 67)),zr 69 (.fa 0 (zt 68)),zr 70 (.ld (zt 69)),za 4 (zt 70)])
  .ret)))
def rc57 : RC := (.seq (.run [za 4 (zi 0)])
  (.seq (.run [zr 6 (.mv (zt 0)),zr 7 (.nck (zt 6)),zr 8 (.fa 2 (zt 7)),zr 9 (.ld (zt 8)),zr 10 (.lenl (zt 9)),zr 11 (.bin .sub (zt 10) (zi 1)),za 5 (zt 11)])
  (.seq (.seq (.run [zr 12 (.mv (zt 5)),zr 13 (.bin .lss (zt 12) (zi 0)),zr 14 (.mv (zt 13)),zg 15 14 false (.mv (zt 0)),zg 16 14 false (.nck (zt 15)),zg 17 14 false (.fa 2 (zt 16)),zg 18 14 false (.ld (zt 17)),zg 19 14 false (.mv (zt 5)),zg 20 14 false (.ia 3 (zt 18) (zt 19)),zg 21 14 false (.fa 0 (zt 20)),zg 22 14 false (.ld (zt 21)),zg 23 14 false (.mv (zt 0)),zg 24 14 false (.nck (zt 23)),zg 25 14 false (.fa 0 (zt 24)),zg 26 14 false (.ld (zt 25)),zg 27 14 false (.bin .neq (zt 22) (zt 26)),zr 28 (.pick (zt 14) (.const (.bool true)) (zt 27))])
  (.cond (zt 28)
  (.seq (.run [zr 29 (.mv (zt 0)),zr 30 (.mv (zt 0)),zr 31 (.nck (zt 30)),zr 32 (.fa 2 (zt 31)),zr 33 (.ld (zt 32)),zr 34 (.mv (zt 0)),zr 35 (.nck (zt 34)),zr 36 (.fa 0 (zt 35)),zr 37 (.ld (zt 36)),zr 38 (.mv (zt 0)),zr 39 (.nck (zt 38)),zr 40 (.fa 1 (zt 39)),zr 41 (.ld (zt 40)),zr 42 (.bld [(.int .i64 0),(.int .i64 0),(.int .i64 0)] [(0,1,(zt 37)),(1,1,(zt 41))]),⟨(some 43),none,(.e (.bsl 185 3 1 [(.int .i64 0),(.int .i64 0),(.int .i64 0)] [(0,3,(zt 42))])),[(33,none,.ld (zt 32))]⟩,zf 44 (.app 185 3 24 (zt 33) (zt 43)),zr 45 (.nck (zt 29)),zr 46 (.fa 2 (zt 45)),ze (.st 1 (zt 46) (zt 44))])
  (.run [zr 47 (.mv (zt 5)),zr 48 (.bin .add (zt 47) (zi 1)),za 5 (zt 48)]))
  .skip))
  rc57_0)))
def ce57 : List (Nat × List Nat × List Nat) := [(2,[0,1,2,3,4,5,6,7,8,9,10,11,12,13,14,15,16],[0,1,3,7,15,31,63,7,255,511,1023,7,2055,6151,14343,32767,65535]),(3,[0,1,2,3,4,5,6,7,8,9,10,11,12,13,14,15,16,17,18],[0,0,2,6,14,0,32,96,224,0,512,1536,3584,8160,16352,32766,65535,131071,262143])]
def ro57 : List RO := [(.mv (zt 4))]
theorem ok57 : okFn Tryz.prog 57 71 ce57 = some (rc57,ro57) := by kernel_rfl
def rc58_0 : RC := (.seq (.run [zr 30 (.mv (zt 0)),zr 31 (.mv (zt 0)),zr 32 (.nck (zt 31)),zr 33 (.fa 7 (zt 32)),zr 34 (.ld (zt 33)),zr 35 (.mv (zt 5)),zf 36 (.bsl 3 1 1 [(.int .i64 0)] [(0,1,(zt 35))]),zf 37 (.app 3 1 8 (zt 34) (zt 36)),zr 38 (.nck (zt 30)),zr 39 (.fa 7 (zt 38)),ze (.st 1 (zt 39) (zt 37))])
  (.seq (.run [zr 40 (.mv (zt 0)),zr 41 (.nck (zt 40)),zr 42 (.fa 3 (zt 41)),ze (.st 1 (zt 42) (.const (.pointer none)))])
  (.seq (.run [zr 43 (.mv (zt 0)),zr 44 (.mv (zt 0)),zr 45 (.nck (zt 44)),zr 46 (.fa 0 (zt 45)),zr 47 (.ld (zt 46)),zr 48 (.mv (zt 0)),zr 49 (.nck (zt 48)),zr 50 (.fa 1 (zt 49)),zr 51 (.ld (zt 50)),zr 52 (.ia 7 (zt 47) (zt 51)),zr 53 (.fa 3 (zt 52)),zr 54 (.ld (zt 53)),zr 55 (.mv (zt 5)),zr 56 (.ia 2 (zt 54) (zt 55)),zr 57 (.fa 1 (zt 56)),zr 58 (.ld (zt 57)),zc 59 61 [(zt 43),(zt 58)]])
  (.seq (.run [zr 60 (.mv (zt 0)),zc 61 50 [(zt 60)],za 4 (zt 61)])
  .ret))))
def rc58_1 : RC := (.seq (.run [zr 20 (.mv (zt 0)),zr 21 (.nck (zt 20)),zr 22 (.fa 3 (zt 21)),zr 23 (.ld (zt 22)),zr 24 (.mv (zt 1)),zc 25 59 [(zt 23),(zt 24)],zr 19 (.mv (zt 25)),zr 26 (.ext 0 (zt 19)),zr 27 (.ext 1 (zt 19)),za 5 (zt 26),za 6 (zt 27)])
  (.seq (.seq (.run [zr 28 (.mv (zt 6)),zr 29 (.not (zt 28))])
  (.cond (zt 29)
  (.seq (.run [za 4 (.const (.slice none 0 0))])
  .ret)
  .skip))
  rc58_0))
def rc58 : RC := (.seq (.run [za 4 (.const (.slice none 0 0))])
  (.seq (.seq (.run [zr 7 (.mv (zt 0)),zr 8 (.nck (zt 7)),zr 9 (.fa 6 (zt 8)),zr 10 (.ld (zt 9)),zr 11 (.bin .neq (zt 10) (zi 0)),zr 12 (.mv (zt 11)),zg 13 12 false (.mv (zt 0)),zg 14 12 false (.nck (zt 13)),zg 15 12 false (.fa 3 (zt 14)),zg 16 12 false (.ld (zt 15)),zg 17 12 false (.eq false .ptr (zt 16) (.const (.pointer none))),zr 18 (.pick (zt 12) (.const (.bool true)) (zt 17))])
  (.cond (zt 18)
  (.seq (.run [za 4 (.const (.slice none 0 0))])
  .ret)
  .skip))
  rc58_1))
def ce58 : List (Nat × List Nat × List Nat) := [(8,[0,1,2,3,4,5,6,7,8,9,10,11,12,13,14,15,16],[0,0,2,6,14,0,32,96,224,510,1022,2046,0,8190,16382,32766,65535])]
def ro58 : List RO := [(.mv (zt 4))]
theorem ok58 : okFn Tryz.prog 58 62 ce58 = some (rc58,ro58) := by kernel_rfl
def rc59_0 : RC := (.seq (.block 1 (.seq (.run [zr 27 (.mv (zt 25)),zr 28 (.ia 1 (zt 23) (zt 25)),zr 29 (.ld (zt 28)),za 7 (zt 27),za 8 (zt 29)])
  (.seq (.run [zr 30 (.mv (zt 0)),zr 31 (.nck (zt 30)),zr 32 (.fa 1 (zt 31)),zr 33 (.ld (zt 32)),zr 34 (.mv (zt 7)),zr 35 (.mv (zt 8)),zr 36 (.mv (zt 0)),zr 37 (.nck (zt 36)),zr 38 (.fa 1 (zt 37)),zr 39 (.ld (zt 38)),zr 40 (.mv (zt 7)),zr 41 (.ia 1 (zt 39) (zt 40)),zr 42 (.ld (zt 41)),zr 43 (.mv (zt 1)),⟨(some 44),none,(.c (.fn 77 [(zt 35),(zt 42),(zt 43),(.const (.bool true))])),[(33,none,.ld (zt 32))]⟩,zr 45 (.ia 1 (zt 33) (zt 34)),ze (.st 1 (zt 45) (zt 44))])
  (.seq (.run [zr 46 (.mv (zt 6)),zr 47 (.bin .lss (zt 46) (zi 0)),zr 48 (.mv (zt 47)),zg 49 48 true (.mv (zt 8)),zg 50 48 true (.mv (zt 0)),zg 51 48 true (.nck (zt 50)),zg 52 48 true (.fa 1 (zt 51)),zg 53 48 true (.ld (zt 52)),zg 54 48 true (.mv (zt 7)),zg 55 48 true (.ia 1 (zt 53) (zt 54)),zg 56 48 true (.ld (zt 55)),⟨(some 57),(some (48,true)),(.c (.fn 78 [(zt 49),(zt 56)])),[]⟩,zr 58 (.pick (zt 48) (zt 57) (.const (.bool false)))])
  (.cond (zt 58)
  (.run [zr 59 (.mv (zt 7)),za 6 (zt 59)])
  .skip)))))
  (.run [zr 60 (.bin .add (zt 25) (zi 1)),zr 25 (.mv (zt 60))]))
def rc59_1 : RC := (.seq (.run [zr 26 (.bin .lss (zt 25) (zt 24))])
  (.seq (.cond (zt 26)
  .skip
  (.exit 0))
  rc59_0))
def rc59_2 : RC := (.seq (.run [zr 63 (.mv (zt 0)),zr 64 (.nck (zt 63)),zr 65 (.fa 3 (zt 64)),ze (.st 1 (zt 65) (.const (.bool true)))])
  (.seq (.run [zr 66 (.mv (zt 6)),za 4 (zt 66),za 5 (.const (.bool true))])
  .ret))
def rc59_3 : RC := (.seq (.seq (.run [zr 61 (.mv (zt 6)),zr 62 (.bin .lss (zt 61) (zi 0))])
  (.cond (zt 62)
  (.seq (.run [za 4 (zi 0),za 5 (.const (.bool false))])
  .ret)
  .skip))
  rc59_2)
def rc59_4 : RC := (.seq (.run [zr 13 (.mv (zt 0)),zr 14 (.nck (zt 13)),zr 15 (.fa 2 (zt 14)),zr 16 (.ld (zt 15)),zr 17 (.bin .add (zt 16) (zi 1)),zr 18 (.nck (zt 13)),zr 19 (.fa 2 (zt 18)),ze (.st 1 (zt 19) (zt 17))])
  (.seq (.run [za 6 (zi (-1))])
  (.seq (.seq (.run [zr 20 (.mv (zt 0)),zr 21 (.nck (zt 20)),zr 22 (.fa 0 (zt 21)),zr 23 (.ld (zt 22)),zr 24 (.lenl (zt 23)),zr 25 (.mv (zi 0))])
  (.block 0 (.loop rc59_1)))
  rc59_3)))
def rc59 : RC := (.seq (.run [za 4 (zi 0),za 5 (.const (.bool false))])
  (.seq (.seq (.run [zr 9 (.mv (zt 0)),zr 10 (.nck (zt 9)),zr 11 (.fa 3 (zt 10)),zr 12 (.ld (zt 11))])
  (.cond (zt 12)
  (.seq (.run [za 4 (zi 0),za 5 (.const (.bool false))])
  .ret)
  .skip))
  rc59_4))
def ce59 : List (Nat × List Nat × List Nat) := [(8,[0,1,2,3,4,5,6,7,8,9,10,11,12,13,14,15,16],[0,1,3,7,0,0,0,64,192,448,0,1984,4032,0,16352,32767,65535])]
def ro59 : List RO := [(.mv (zt 4)),(.mv (zt 5))]
theorem ok59 : okFn Tryz.prog 59 67 ce59 = some (rc59,ro59) := by kernel_rfl
def rc61 : RC := (.run [zr 4 (.mv (zt 0)),zr 5 (.mv (zt 0)),zr 6 (.nck (zt 5)),zr 7 (.fa 0 (zt 6)),zr 8 (.ld (zt 7)),zr 9 (.mv (zt 1)),zc 10 44 [(zt 8),(zt 9)],zr 11 (.nck (zt 4)),zr 12 (.fa 1 (zt 11)),ze (.st 1 (zt 12) (zt 10))])
def ce61 : List (Nat × List Nat × List Nat) := []
def ro61 : List RO := []
theorem ok61 : okFn Tryz.prog 61 13 ce61 = some (rc61,ro61) := by kernel_rfl
def rc64_0 : RC := (.seq (.run [zr 32 (.ldn 6 (zt 5)),ze (.st 6 (zt 2) (zt 32)),za 3 (.const .nilIface)])
  .ret)
def rc64_1 : RC := (.seq (.seq (.run [zr 28 (.mv (zt 6)),zr 29 (.eq true (.iface []) (zt 28) (.const .nilIface))])
  (.cond (zt 29)
  (.seq (.run [zr 30 (.bld [(.int .i64 0),(.int .u64 0),(.int .u64 0),(.int .u64 0),(.int .u64 0),(.slice none 0 0)] []),zr 31 (.mv (zt 6)),ze (.st 6 (zt 2) (zt 30)),za 3 (zt 31)])
  .ret)
  .skip))
  rc64_0)
def rc64_2 : RC := (.seq (.run [zr 12 (.mv (zt 0)),zr 13 (.bld [(.string ⟨#[]⟩),(.int .i64 0)] [(0,1,(zt 12))]),zf 14 (.bx 198 (zt 13)),za 4 (zt 14)])
  (.seq (.run [zr 16 (.mv (zt 4)),zc 17 85 [(zt 16),(zi 0)],zr 15 (.mv (zt 17)),zr 18 (.ext 0 (zt 15)),zr 19 (.ext 1 (zt 15)),zf 5 (.al [(.int .i64 0),(.int .u64 0),(.int .u64 0),(.int .u64 0),(.int .u64 0),(.slice none 0 0)] 153),ze (.st 6 (zt 5) (zt 18)),za 6 (zt 19)])
  (.seq (.seq (.run [zr 20 (.mv (zt 6)),zr 21 (.eq false (.iface []) (zt 20) (.const .nilIface)),zr 22 (.mv (zt 21)),zg 23 22 true (.mv (zt 4)),⟨(some 24),(some (22,true)),(.c (.fn 86 [(zt 23)])),[]⟩,zr 25 (.pick (zt 22) (zt 24) (.const (.bool false)))])
  (.cond (zt 25)
  (.run [zr 26 (.mv (zt 4)),zc 27 87 [(zt 26)],za 6 (zt 27)])
  .skip))
  rc64_1)))
def rc64 : RC := (.seq (.run [zf 2 (.al [(.int .i64 0),(.int .u64 0),(.int .u64 0),(.int .u64 0),(.int .u64 0),(.slice none 0 0)] 153),za 3 (.const .nilIface)])
  (.seq (.seq (.run [zr 7 (.mv (zt 0)),zr 8 (.lens (zt 7)),zr 9 (.bin .gtr (zt 8) (zi 64))])
  (.cond (zt 9)
  (.seq (.run [zr 10 (.bld [(.int .i64 0),(.int .u64 0),(.int .u64 0),(.int .u64 0),(.int .u64 0),(.slice none 0 0)] []),zc 11 84 [(zi 7),(zi 64)],ze (.st 6 (zt 2) (zt 10)),za 3 (zt 11)])
  .ret)
  .skip))
  rc64_2))
def ce64 : List (Nat × List Nat × List Nat) := []
def ro64 : List RO := [(.ldn 6 (zt 2)),(.mv (zt 3))]
theorem ok64 : okFn Tryz.prog 64 33 ce64 = some (rc64,ro64) := by kernel_rfl
def rc65_0 : RC := (.seq (.block 3 (.seq (.run [zr 67 (.mv (zt 65)),za 8 (zt 67)])
  (.run [zr 68 (.mv (zt 7)),zr 69 (.mv (zt 8)),zr 70 (.mv (zt 3)),zr 71 (.nck (zt 70)),zr 72 (.fa 1 (zt 71)),zr 73 (.ld (zt 72)),zr 74 (.mv (zt 6)),zr 75 (.mv (zt 8)),zr 76 (.bld [(.int .i64 0),(.int .i64 0)] [(0,1,(zt 74)),(1,1,(zt 75))]),zr 77 (.lku 2 false (.bool false) (zt 73) (zt 76)),zr 78 (.ia 1 (zt 68) (zt 69)),ze (.st 1 (zt 78) (zt 77))])))
  (.run [zr 79 (.bin .add (zt 65) (zi 1)),zr 65 (.mv (zt 79))]))
def rc65_1 : RC := (.seq (.run [zr 66 (.bin .lss (zt 65) (zt 64))])
  (.seq (.cond (zt 66)
  .skip
  (.exit 2))
  rc65_0))
def rc65_2 : RC := (.seq (.block 1 (.seq (.run [zr 30 (.mv (zt 28)),za 6 (zt 30)])
  (.seq (.run [zr 31 (.mv (zt 5)),zr 32 (.mv (zt 5)),zr 33 (.nck (zt 32)),zr 34 (.fa 2 (zt 33)),zr 35 (.ld (zt 34)),zr 36 (.fa 0 (zt 4)),zr 37 (.ld (zt 36)),zr 38 (.mv (zt 6)),zr 39 (.lku 0 false (.bool false) (zt 37) (zt 38)),⟨(some 40),none,(.e (.bsl 4 1 1 [(.bool false)] [(0,1,(zt 39))])),[(35,none,.ld (zt 34))]⟩,zf 41 (.app 4 1 1 (zt 35) (zt 40)),zr 42 (.nck (zt 31)),zr 43 (.fa 2 (zt 42)),ze (.st 1 (zt 43) (zt 41))])
  (.seq (.run [zr 44 (.mv (zt 5)),zr 45 (.mv (zt 5)),zr 46 (.nck (zt 45)),zr 47 (.fa 3 (zt 46)),zr 48 (.ld (zt 47)),zr 49 (.fa 1 (zt 4)),zr 50 (.ld (zt 49)),zr 51 (.mv (zt 6)),zr 52 (.lku 0 false (.bool false) (zt 50) (zt 51)),⟨(some 53),none,(.e (.bsl 4 1 1 [(.bool false)] [(0,1,(zt 52))])),[(48,none,.ld (zt 47))]⟩,zf 54 (.app 4 1 1 (zt 48) (zt 53)),zr 55 (.nck (zt 44)),zr 56 (.fa 3 (zt 55)),ze (.st 1 (zt 56) (zt 54))])
  (.seq (.run [zr 57 (.mv (zt 3)),zr 58 (.nck (zt 57)),zr 59 (.fa 0 (zt 58)),zr 60 (.ld (zt 59)),zr 61 (.lenl (zt 60)),zf 62 (.mks 4 1 (.bool false) (zt 61) (zt 61)),za 7 (zt 62)])
  (.seq (.seq (.run [zr 63 (.mv (zt 7)),zr 64 (.lenl (zt 63)),zr 65 (.mv (zi 0))])
  (.block 2 (.loop rc65_1)))
  (.run [zr 80 (.mv (zt 5)),zr 81 (.mv (zt 5)),zr 82 (.nck (zt 81)),zr 83 (.fa 1 (zt 82)),zr 84 (.ld (zt 83)),zr 85 (.mv (zt 7)),zf 86 (.bsl 186 1 1 [(.slice none 0 0)] [(0,1,(zt 85))]),zf 87 (.app 186 1 24 (zt 84) (zt 86)),zr 88 (.nck (zt 80)),zr 89 (.fa 1 (zt 88)),ze (.st 1 (zt 89) (zt 87))])))))))
  (.run [zr 90 (.bin .add (zt 28) (zi 1)),zr 28 (.mv (zt 90))]))
def rc65_3 : RC := (.seq (.run [zr 29 (.bin .lss (zt 28) (zt 27))])
  (.seq (.cond (zt 29)
  .skip
  (.exit 0))
  rc65_2))
def rc65_4 : RC := (.seq (.run [zr 91 (.mv (zt 5)),za 2 (zt 91)])
  .ret)
def rc65 : RC := (.seq (.run [zf 1 (.bx 153 (zt 0)),za 2 (.const (.pointer none))])
  (.seq (.run [zf 9 (.mkm),zr 10 (.bld [(.slice none 0 0),(.map none)] [(1,1,(zt 9))]),zf 11 (.bx 204 (zt 10)),za 3 (zt 11)])
  (.seq (.run [zr 12 (.mv (zt 3)),zr 13 (.ldn 6 (zt 1)),zc 14 88 [(zt 12),(zt 13)],zf 4 (.al [(.map none),(.map none),(.bool false)] 207),ze (.st 3 (zt 4) (zt 14))])
  (.seq (.run [zr 15 (.mv (zt 3)),zr 16 (.nck (zt 15)),zr 17 (.fa 0 (zt 16)),zr 18 (.ld (zt 17)),zr 19 (.fa 2 (zt 4)),zr 20 (.ld (zt 19)),zr 21 (.bld [(.slice none 0 0),(.slice none 0 0),(.slice none 0 0),(.slice none 0 0),(.bool false)] [(0,1,(zt 18)),(4,1,(zt 20))]),zf 22 (.bx 210 (zt 21)),za 5 (zt 22)])
  (.seq (.seq (.run [zr 23 (.mv (zt 3)),zr 24 (.nck (zt 23)),zr 25 (.fa 0 (zt 24)),zr 26 (.ld (zt 25)),zr 27 (.lenl (zt 26)),zr 28 (.mv (zi 0))])
  (.block 0 (.loop rc65_3)))
  rc65_4)))))
def ce65 : List (Nat × List Nat × List Nat) := [(3,[0,1,2,3,4,5,6,7,8],[0,1,3,7,0,16,63,127,255]),(7,[0,1,2,3,4,5,6,7,8,9,10,11,12,13],[0,0,2,6,14,0,32,0,224,480,1022,2047,4095,8191]),(8,[0,1,2,3,4,5,6,7,8,9,10,11,12,13],[0,0,2,6,14,0,32,0,224,480,1022,2047,4095,8191])]
def ro65 : List RO := [(.mv (zt 2))]
theorem ok65 : okFn Tryz.prog 65 92 ce65 = some (rc65,ro65) := by kernel_rfl
def rc66 : RC := (.seq (.run [za 2 (.const (.bool false))])
  (.seq (.run [zr 3 (.mv (zt 0)),zr 4 (.nck (zt 3)),zr 5 (.fa 4 (zt 4)),zr 6 (.ld (zt 5)),za 2 (zt 6)])
  .ret))
def ce66 : List (Nat × List Nat × List Nat) := []
def ro66 : List RO := [(.mv (zt 2))]
theorem ok66 : okFn Tryz.prog 66 7 ce66 = some (rc66,ro66) := by kernel_rfl
def rc67_0 : RC := (.seq (.run [zr 40 (.mv (zt 7)),zr 41 (.bin .add (zi 1) (zt 40)),zr 42 (.sla 24 1 (zt 5) (some (zi 1)) (some (zt 41))),zr 43 (.b2s (zt 42)),za 4 (zt 43)])
  .ret)
def rc67_1 : RC := (.seq (.run [zr 26 (.mv (zt 6)),zc 27 90 [(zt 26)],za 7 (zt 27)])
  (.seq (.run [zr 28 (.mv (zt 7)),zr 29 (.bin .add (zi 1) (zt 28)),zr 30 (.sla 24 1 (zt 5) (some (zi 1)) (some (zt 29))),zr 31 (.mv (zt 6)),zc 32 91 [(zt 30),(zt 31)]])
  (.seq (.seq (.run [zr 33 (.mv (zt 0)),zr 34 (.bin .lss (zt 33) (zi 0))])
  (.cond (zt 34)
  (.seq (.run [zr 35 (.iaa 24 1 (zt 5) (zi 0)),ze (.st 1 (zt 35) (.const (.int .u8 45)))])
  (.seq (.run [zr 36 (.mv (zt 7)),zr 37 (.bin .add (zi 1) (zt 36)),zr 38 (.sla 24 1 (zt 5) none (some (zt 37))),zr 39 (.b2s (zt 38)),za 4 (zt 39)])
  .ret))
  .skip))
  rc67_0)))
def rc67_2 : RC := (.seq (.run [zf 5 (.al [(.int .u8 0),(.int .u8 0),(.int .u8 0),(.int .u8 0),(.int .u8 0),(.int .u8 0),(.int .u8 0),(.int .u8 0),(.int .u8 0),(.int .u8 0),(.int .u8 0),(.int .u8 0),(.int .u8 0),(.int .u8 0),(.int .u8 0),(.int .u8 0),(.int .u8 0),(.int .u8 0),(.int .u8 0),(.int .u8 0),(.int .u8 0),(.int .u8 0),(.int .u8 0),(.int .u8 0)] 213)])
  (.seq (.run [zr 20 (.mv (zt 0)),zr 21 (.cvi .u64 (zt 20)),za 6 (zt 21)])
  (.seq (.seq (.run [zr 22 (.mv (zt 0)),zr 23 (.bin .lss (zt 22) (zi 0))])
  (.cond (zt 23)
  (.run [zr 24 (.mv (zt 6)),zr 25 (.neg (zt 24)),za 6 (zt 25)])
  .skip))
  rc67_1)))
def rc67_3 : RC := (.seq (.run [zr 45 (.mv (zt 0)),zr 46 (.cvi .u64 (zt 45)),zr 47 (.mv (zt 1)),zr 48 (.mv (zt 0)),zr 49 (.bin .lss (zt 48) (zi 0)),zc 50 92 [(.const (.slice none 0 0)),(zt 46),(zt 47),(zt 49),(.const (.bool false))],zr 44 (.mv (zt 50)),zr 51 (.ext 0 (zt 44)),zr 52 (.ext 1 (zt 44)),za 8 (zt 51),za 9 (zt 52)])
  (.seq (.run [zr 53 (.mv (zt 9)),za 4 (zt 53)])
  .ret))
def rc67 : RC := (.seq (.run [za 4 (.const (.string ⟨#[]⟩))])
  (.seq (.seq (.run [zr 10 (.mv (zt 1)),zr 11 (.bin .eql (zt 10) (zi 10))])
  (.cond (zt 11)
  (.seq (.seq (.run [zr 12 (.mv (zt 0)),zr 13 (.bin .leq (zi 0) (zt 12)),zr 14 (.mv (zt 13)),zg 15 14 true (.mv (zt 0)),zg 16 14 true (.bin .lss (zt 15) (zi 100)),zr 17 (.pick (zt 14) (zt 16) (.const (.bool false)))])
  (.cond (zt 17)
  (.seq (.run [zr 18 (.mv (zt 0)),zc 19 89 [(zt 18)],za 4 (zt 19)])
  .ret)
  .skip))
  rc67_2)
  .skip))
  rc67_3))
def ce67 : List (Nat × List Nat × List Nat) := []
def ro67 : List RO := [(.mv (zt 4))]
theorem ok67 : okFn Tryz.prog 67 54 ce67 = some (rc67,ro67) := by kernel_rfl
def rc68_0 : RC := (.seq (.block 1 (.seq (.run [zr 10 (.mv (zt 8)),zr 11 (.ia 1 (zt 6) (zt 8)),zr 12 (.ld (zt 11)),za 4 (zt 10),za 5 (zt 12)])
  (.seq (.run [zr 13 (.mv (zt 4)),zr 14 (.bin .lss (zt 13) (zi 8))])
  (.cond (zt 14)
  (.run [zr 15 (.mv (zt 3)),zr 16 (.mv (zt 5)),zr 17 (.bin .rem (zt 16) (.const (.int .u8 11))),zr 18 (.mv (zt 5)),zr 19 (.bin .rem (zt 18) (.const (.int .u8 11))),zr 20 (.bin .add (zt 19) (.const (.int .u8 1))),zr 21 (.sls (.const (.string ⟨#[97,98,99,88,89,90,48,49,46,45,95]⟩)) (some (zt 17)) (some (zt 20))),zr 22 (.bin .add (zt 15) (zt 21)),za 3 (zt 22)])
  .skip))))
  (.run [zr 23 (.bin .add (zt 8) (zi 1)),zr 8 (.mv (zt 23))]))
def rc68_1 : RC := (.seq (.run [zr 9 (.bin .lss (zt 8) (zt 7))])
  (.seq (.cond (zt 9)
  .skip
  (.exit 0))
  rc68_0))
def rc68_2 : RC := (.seq (.run [zr 24 (.mv (zt 3)),za 2 (zt 24)])
  .ret)
def rc68 : RC := (.seq (.run [za 2 (.const (.string ⟨#[]⟩))])
  (.seq (.run [za 3 (.const (.string ⟨#[102]⟩))])
  (.seq (.seq (.run [zr 6 (.mv (zt 0)),zr 7 (.lenl (zt 6)),zr 8 (.mv (zi 0))])
  (.block 0 (.loop rc68_1)))
  rc68_2)))
def ce68 : List (Nat × List Nat × List Nat) := []
def ro68 : List RO := [(.mv (zt 2))]
theorem ok68 : okFn Tryz.prog 68 25 ce68 = some (rc68,ro68) := by kernel_rfl
def rc69_0 : RC := (.seq (.block 2 (.seq (.run [zr 32 (.ia 2 (zt 28) (zt 30)),zr 33 (.ldn 2 (zt 32)),zf 7 (.al [(.string ⟨#[]⟩),(.string ⟨#[]⟩)] 105),ze (.st 2 (zt 7) (zt 33))])
  (.run [zr 34 (.mv (zt 5)),zr 35 (.fa 0 (zt 7)),zr 36 (.ld (zt 35)),zf 37 (.bsl 9 1 1 [(.string ⟨#[]⟩)] [(0,1,(zt 36))]),zf 38 (.app 9 1 16 (zt 34) (zt 37)),za 5 (zt 38)])))
  (.run [zr 39 (.bin .add (zt 30) (zi 1)),zr 30 (.mv (zt 39))]))
def rc69_1 : RC := (.seq (.run [zr 31 (.bin .lss (zt 30) (zt 29))])
  (.seq (.cond (zt 31)
  .skip
  (.exit 1))
  rc69_0))
def rc69_2 : RC := (.seq (.run [zr 41 (.mv (zt 0)),zr 42 (.mv (zt 5)),zc 43 45 [(zt 42)],zr 40 (.mv (zt 43)),zr 44 (.ext 0 (zt 40)),zr 45 (.ext 1 (zt 40)),zr 46 (.nck (zt 41)),zr 47 (.fa 3 (zt 46)),ze (.st 1 (zt 47) (zt 44))])
  (.run [zr 48 (.mv (zt 0)),zr 49 (.fa 4 (zt 3)),zr 50 (.ld (zt 49)),zr 51 (.mx (zi 1) (zt 50)),zr 52 (.nck (zt 48)),zr 53 (.fa 4 (zt 52)),ze (.st 1 (zt 53) (zt 51))]))
def rc69_3 : RC := (.seq (.run [za 4 (.const (.slice none 0 0))])
  .ret)
def rc69 : RC := (.seq (.run [zf 3 (.bx 101 (zt 1)),za 4 (.const (.slice none 0 0))])
  (.seq (.seq (.run [zr 8 (.fa 1 (zt 3)),zr 9 (.ld (zt 8))])
  (.block 0 (.seq (.run [zr 14 (.bin .eql (zt 9) (zi 0)),za 13 (zt 14)])
  (.cond (zt 13)
  (.seq (.run [zr 15 (.mv (zt 0)),zr 16 (.nck (zt 15)),zr 17 (.fa 1 (zt 16)),zr 18 (.ld (zt 17)),zr 19 (.bin .add (zt 18) (zi 1)),zr 20 (.nck (zt 15)),zr 21 (.fa 1 (zt 20)),ze (.st 1 (zt 21) (zt 19))])
  (.seq (.run [zr 22 (.fa 2 (zt 3)),zr 23 (.ld (zt 22)),zf 24 (.s2b 5 (zt 23)),za 4 (zt 24)])
  .ret))
  (.seq (.run [zr 26 (.bin .eql (zt 9) (zi 1)),za 25 (zt 26)])
  (.cond (zt 25)
  (.seq (.run [za 5 (.const (.slice none 0 0))])
  (.seq (.seq (.run [zr 27 (.fa 3 (zt 3)),zr 28 (.ld (zt 27)),zr 29 (.lenl (zt 28)),zr 30 (.mv (zi 0))])
  (.block 1 (.loop rc69_1)))
  rc69_2))
  (.seq (.run [zr 55 (.bin .eql (zt 9) (zi 2)),za 54 (zt 55)])
  (.cond (zt 54)
  (.run [zr 56 (.mv (zt 0)),zr 57 (.fa 5 (zt 3)),zr 58 (.ld (zt 57)),zc 59 61 [(zt 56),(zt 58)]])
  (.seq (.run [zr 61 (.bin .eql (zt 9) (zi 3)),za 60 (zt 61)])
  (.cond (zt 60)
  (.seq (.run [zr 62 (.mv (zt 0)),zr 63 (.nck (zt 62)),zr 64 (.fa 2 (zt 63)),zr 65 (.ld (zt 64)),zr 66 (.mv (zt 0)),zr 67 (.nck (zt 66)),zr 68 (.fa 1 (zt 67)),zr 69 (.ld (zt 68)),zr 70 (.lku 0 false (.int .i64 0) (zt 65) (zt 69)),zr 71 (.bin .add (zt 70) (zi 1)),ze (.mup 0 (zt 65) (zt 69) (zt 71))])
  (.seq (.run [zr 72 (.mv (zt 0)),zr 73 (.nck (zt 72)),zr 74 (.fa 2 (zt 73)),zr 75 (.ld (zt 74)),zr 76 (.mv (zt 0)),zr 77 (.nck (zt 76)),zr 78 (.fa 1 (zt 77)),zr 79 (.ld (zt 78)),zr 80 (.lku 0 false (.int .i64 0) (zt 75) (zt 79)),zr 81 (.fa 4 (zt 3)),zr 82 (.ld (zt 81)),zr 83 (.bin .leq (zt 80) (zt 82))])
  (.cond (zt 83)
  (.run [zr 84 (.mv (zt 0)),zr 85 (.fa 5 (zt 3)),zr 86 (.ld (zt 85)),zc 87 61 [(zt 84),(zt 86)]])
  (.seq (.run [zr 88 (.mv (zt 0)),zr 89 (.nck (zt 88)),zr 90 (.fa 2 (zt 89)),zr 91 (.ld (zt 90)),zr 92 (.mv (zt 0)),zr 93 (.nck (zt 92)),zr 94 (.fa 1 (zt 93)),zr 95 (.ld (zt 94)),ze (.mup 0 (zt 91) (zt 95) (zi 0))])
  (.run [zr 96 (.mv (zt 0)),zr 97 (.nck (zt 96)),zr 98 (.fa 1 (zt 97)),zr 99 (.ld (zt 98)),zr 100 (.bin .add (zt 99) (zi 1)),zr 101 (.nck (zt 96)),zr 102 (.fa 1 (zt 101)),ze (.st 1 (zt 102) (zt 100))])))))
  (.seq (.run [zr 104 (.bin .eql (zt 9) (zi 4)),za 103 (zt 104)])
  (.cond (zt 103)
  (.run [zr 105 (.mv (zt 0)),zr 106 (.nck (zt 105)),zr 107 (.fa 6 (zt 106)),ze (.st 1 (zt 107) (zi 1))])
  (.run [zr 10 (.mv (zt 0)),zr 11 (.nck (zt 10)),zr 12 (.fa 6 (zt 11)),ze (.st 1 (zt 12) (zi 2))])))))))))))))
  rc69_3))
def ce69 : List (Nat × List Nat × List Nat) := [(18,[0,1,2,3,4,5,6,7,8,9,10],[0,1,3,7,0,16,48,112,255,511,1023]),(19,[0,1,2,3,4,5,6,7,8,9,10,11],[0,1,3,7,0,16,48,112,255,0,512,2047]),(21,[0,1,2,3,4,5,6,7,8],[0,1,3,7,0,16,48,112,255])]
def ro69 : List RO := [(.mv (zt 4))]
theorem ok69 : okFn Tryz.prog 69 108 ce69 = some (rc69,ro69) := by kernel_rfl
def rc71_0 : RC := (.block 3 (.run [zr 32 (.mv (zt 7)),zf 33 (.bsl 5 1 1 [(.int .u8 0)] [(0,1,(.const (.int .u8 26)))]),zf 34 (.app 5 1 1 (zt 32) (zt 33)),za 7 (zt 34)]))
def rc71_1 : RC := (.seq (.seq (.run [zr 28 (.mv (zt 7)),zr 29 (.lenl (zt 28)),zr 30 (.mv (zt 6)),zr 31 (.bin .lss (zt 29) (zt 30))])
  (.cond (zt 31)
  .skip
  (.exit 2)))
  rc71_0)
def rc71_2 : RC := (.seq (.run [zr 17 (.mv (zt 0)),zr 18 (.mv (zt 6)),zr 19 (.mv (zt 0)),zr 20 (.lenl (zt 19)),zr 21 (.mn (zt 18) (zt 20)),zr 22 (.sl 1 (zt 17) none (some (zt 21))),zf 23 (.app 5 1 1 (.const (.slice none 0 0)) (zt 22)),za 7 (zt 23)])
  (.seq (.run [zr 24 (.mv (zt 0)),zr 25 (.mv (zt 7)),zr 26 (.lenl (zt 25)),zr 27 (.sl 1 (zt 24) (some (zt 26)) none),za 0 (zt 27)])
  (.seq (.block 2 (.loop rc71_1))
  (.run [zr 35 (.mv (zt 5)),zr 36 (.mv (zt 7)),zf 37 (.bsl 28 1 1 [(.slice none 0 0)] [(0,1,(zt 36))]),zf 38 (.app 28 1 24 (zt 35) (zt 37)),za 5 (zt 38)]))))
def rc71_3 : RC := (.block 1 (.seq (.run [za 6 (zi 128)])
  (.seq (.seq (.run [zr 11 (.mv (zt 1)),zr 12 (.mv (zt 11)),zg 13 12 true (.mv (zt 0)),zg 14 12 true (.lenl (zt 13)),zg 15 12 true (.bin .geq (zt 14) (zi 1024)),zr 16 (.pick (zt 12) (zt 15) (.const (.bool false)))])
  (.cond (zt 16)
  (.run [za 6 (zi 1024)])
  .skip))
  rc71_2)))
def rc71_4 : RC := (.seq (.seq (.run [zr 8 (.mv (zt 0)),zr 9 (.lenl (zt 8)),zr 10 (.bin .gtr (zt 9) (zi 0))])
  (.cond (zt 10)
  .skip
  (.exit 0)))
  rc71_3)
def rc71_5 : RC := (.seq (.run [zr 39 (.mv (zt 5)),za 4 (zt 39)])
  .ret)
def rc71 : RC := (.seq (.run [za 4 (.const (.slice none 0 0))])
  (.seq (.run [za 5 (.const (.slice none 0 0))])
  (.seq (.block 0 (.loop rc71_4))
  rc71_5)))
def ce71 : List (Nat × List Nat × List Nat) := []
def ro71 : List RO := [(.mv (zt 4))]
theorem ok71 : okFn Tryz.prog 71 40 ce71 = some (rc71,ro71) := by kernel_rfl
def rc72_0 : RC := (.seq (.block 1 (.seq (.run [zr 22 (.ia 2 (zt 18) (zt 20)),zr 23 (.ldn 2 (zt 22)),zf 11 (.al [(.int .u8 0),(.slice none 0 0)] 221),ze (.st 2 (zt 11) (zt 23))])
  (.run [zr 24 (.mv (zt 9)),zr 25 (.mv (zt 9)),zr 26 (.nck (zt 25)),zr 27 (.fa 2 (zt 26)),zr 28 (.ld (zt 27)),zr 29 (.fa 0 (zt 11)),zr 30 (.ld (zt 29)),zr 31 (.fa 1 (zt 11)),zr 32 (.ld (zt 31)),⟨(some 33),none,(.e (.app 5 1 1 (.const (.slice none 0 0)) (zt 32))),[(28,none,.ld (zt 27)),(30,none,.ld (zt 29))]⟩,zr 34 (.bld [(.int .u8 0),(.slice none 0 0)] [(0,1,(zt 30)),(1,1,(zt 33))]),⟨(some 35),none,(.e (.bsl 221 2 1 [(.int .u8 0),(.slice none 0 0)] [(0,2,(zt 34))])),[(28,none,.ld (zt 27))]⟩,zf 36 (.app 221 2 32 (zt 28) (zt 35)),zr 37 (.nck (zt 24)),zr 38 (.fa 2 (zt 37)),ze (.st 1 (zt 38) (zt 36))])))
  (.run [zr 39 (.bin .add (zt 20) (zi 1)),zr 20 (.mv (zt 39))]))
def rc72_1 : RC := (.seq (.run [zr 21 (.bin .lss (zt 20) (zt 19))])
  (.seq (.cond (zt 21)
  .skip
  (.exit 0))
  rc72_0))
def rc72_2 : RC := (.seq (.run [zr 40 (.mv (zt 9)),zr 41 (.mv (zt 9)),zr 42 (.mv (zt 9)),zr 43 (.nck (zt 42)),zr 44 (.fa 0 (zt 43)),zr 45 (.fa 1 (zt 44)),zr 46 (.ld (zt 45)),zr 47 (.nck (zt 40)),zr 48 (.fa 8 (zt 47)),ze (.st 1 (zt 48) (zt 46)),zr 49 (.nck (zt 41)),zr 50 (.fa 7 (zt 49)),ze (.st 1 (zt 50) (zi 1))])
  (.seq (.run [zr 51 (.mv (zt 9)),za 8 (zt 51)])
  .ret))
def rc72 : RC := (.seq (.run [zf 4 (.bx 23 (zt 0)),za 8 (.const (.pointer none))])
  (.seq (.run [zr 12 (.ldn 2 (zt 4)),zc 13 95 [(zt 12)],zr 14 (.mv (zt 2)),zr 15 (.mv (zt 3)),zr 16 (.bld [(.int .i64 0),(.int .i64 0),(.slice none 0 0),(.bool false),(.bool false),(.int .i64 0),(.int .i64 0),(.int .i64 0),(.int .i64 0),(.bool false),.nilIface] [(0,2,(zt 13)),(4,1,(zt 14)),(3,1,(zt 15))]),zf 17 (.bx 228 (zt 16)),za 9 (zt 17)])
  (.seq (.seq (.run [zr 18 (.mv (zt 1)),zr 19 (.lenl (zt 18)),zr 20 (.mv (zi 0))])
  (.block 0 (.loop rc72_1)))
  rc72_2)))
def ce72 : List (Nat × List Nat × List Nat) := [(5,[0,1,2,3,4,5,6,7,8,9,10,11,12,13,14,15],[0,0,2,6,14,0,32,0,128,384,992,2016,4094,8191,16383,32767])]
def ro72 : List RO := [(.mv (zt 8))]
theorem ok72 : okFn Tryz.prog 72 52 ce72 = some (rc72,ro72) := by kernel_rfl
def rc73_0 : RC := (.seq (.block 1 (.seq (.run [zr 10 (.mv (zt 8)),zr 11 (.ia 1 (zt 6) (zt 8)),zr 12 (.ld (zt 11)),za 4 (zt 10),za 5 (zt 12)])
  (.run [zr 13 (.mv (zt 3)),zr 14 (.mv (zt 4)),zr 15 (.bin .add (zt 14) (zi 1)),zr 16 (.cvi .u8 (zt 15)),zr 17 (.mv (zt 5)),zf 18 (.app 5 1 1 (.const (.slice none 0 0)) (zt 17)),zr 19 (.bld [(.int .u8 0),(.slice none 0 0)] [(0,1,(zt 16)),(1,1,(zt 18))]),zf 20 (.bsl 221 2 1 [(.int .u8 0),(.slice none 0 0)] [(0,2,(zt 19))]),zf 21 (.app 221 2 32 (zt 13) (zt 20)),za 3 (zt 21)])))
  (.run [zr 22 (.bin .add (zt 8) (zi 1)),zr 8 (.mv (zt 22))]))
def rc73_1 : RC := (.seq (.run [zr 9 (.bin .lss (zt 8) (zt 7))])
  (.seq (.cond (zt 9)
  .skip
  (.exit 0))
  rc73_0))
def rc73_2 : RC := (.seq (.run [zr 23 (.mv (zt 3)),za 2 (zt 23)])
  .ret)
def rc73 : RC := (.seq (.run [za 2 (.const (.slice none 0 0))])
  (.seq (.run [za 3 (.const (.slice none 0 0))])
  (.seq (.seq (.run [zr 6 (.mv (zt 0)),zr 7 (.lenl (zt 6)),zr 8 (.mv (zi 0))])
  (.block 0 (.loop rc73_1)))
  rc73_2)))
def ce73 : List (Nat × List Nat × List Nat) := []
def ro73 : List RO := [(.mv (zt 2))]
theorem ok73 : okFn Tryz.prog 73 24 ce73 = some (rc73,ro73) := by kernel_rfl
def rc77_0 : RC := (.seq (.block 3 (.seq (.run [zr 48 (.mv (zt 46)),za 13 (zt 48)])
  (.run [zr 49 (.mv (zt 12)),zr 50 (.mv (zt 49)),zg 51 50 false (.mv (zt 13)),zg 52 50 false (.mv (zt 0)),zg 53 50 false (.nck (zt 52)),zg 54 50 false (.fa 1 (zt 53)),zg 55 50 false (.ld (zt 54)),zg 56 50 false (.lenl (zt 55)),zg 57 50 false (.bin .lss (zt 51) (zt 56)),zg 58 50 false (.mv (zt 57)),zg 59 58 true (.mv (zt 1)),zg 60 58 true (.mv (zt 13)),zg 61 58 true (.ia 1 (zt 59) (zt 60)),zg 62 58 true (.ld (zt 61)),zg 63 50 false (.pick (zt 58) (zt 62) (.const (.bool false))),zg 64 50 false (.mv (zt 63)),zg 65 64 true (.mv (zt 0)),zg 66 64 true (.nck (zt 65)),zg 67 64 true (.fa 1 (zt 66)),zg 68 64 true (.ld (zt 67)),zg 69 64 true (.mv (zt 13)),zg 70 64 true (.ia 1 (zt 68) (zt 69)),zg 71 64 true (.ld (zt 70)),zg 72 64 true (.mv (zt 10)),zg 73 64 true (.ia 1 (zt 71) (zt 72)),zg 74 64 true (.ld (zt 73)),zg 75 50 false (.pick (zt 64) (zt 74) (.const (.bool false))),zr 76 (.pick (zt 50) (.const (.bool true)) (zt 75)),za 12 (zt 76)])))
  (.run [zr 77 (.bin .add (zt 46) (zi 1)),zr 46 (.mv (zt 77))]))
def rc77_1 : RC := (.seq (.run [zr 47 (.bin .lss (zt 46) (zt 45))])
  (.seq (.cond (zt 47)
  .skip
  (.exit 2))
  rc77_0))
def rc77_2 : RC := (.seq (.run [zr 34 (.mv (zt 3)),zr 35 (.mv (zt 34)),zg 36 35 true (.mv (zt 0)),zg 37 35 true (.nck (zt 36)),zg 38 35 true (.fa 2 (zt 37)),zg 39 35 true (.ld (zt 38)),zg 40 35 true (.mv (zt 10)),zg 41 35 true (.ia 1 (zt 39) (zt 40)),zg 42 35 true (.ld (zt 41)),zr 43 (.pick (zt 35) (zt 42) (.const (.bool false))),za 12 (zt 43)])
  (.seq (.seq (.run [zr 44 (.mv (zt 1)),zr 45 (.lenl (zt 44)),zr 46 (.mv (zi 0))])
  (.block 2 (.loop rc77_1)))
  (.run [zr 78 (.mv (zt 9)),zr 79 (.mv (zt 10)),zr 80 (.mv (zt 12)),zr 81 (.ia 1 (zt 78) (zt 79)),ze (.st 1 (zt 81) (zt 80))])))
def rc77_3 : RC := (.seq (.block 1 (.seq (.run [zr 27 (.mv (zt 25)),zr 28 (.ia 4 (zt 23) (zt 25)),zr 29 (.ldn 4 (zt 28)),zf 11 (.al [(.int .u64 0),(.int .u64 0),(.int .u64 0),(.int .u64 0)] 150),za 10 (zt 27),ze (.st 4 (zt 11) (zt 29))])
  (.seq (.seq (.run [zr 30 (.ldn 4 (zt 11)),zr 31 (.mv (zt 2)),zc 32 96 [(zt 30),(zt 31)],zr 33 (.not (zt 32))])
  (.cond (zt 33)
  (.exit 1)
  .skip))
  rc77_2)))
  (.run [zr 82 (.bin .add (zt 25) (zi 1)),zr 25 (.mv (zt 82))]))
def rc77_4 : RC := (.seq (.run [zr 26 (.bin .lss (zt 25) (zt 24))])
  (.seq (.cond (zt 26)
  .skip
  (.exit 0))
  rc77_3))
def rc77_5 : RC := (.seq (.run [zr 83 (.mv (zt 9)),za 8 (zt 83)])
  .ret)
def rc77 : RC := (.seq (.run [za 8 (.const (.slice none 0 0))])
  (.seq (.run [zr 14 (.mv (zt 0)),zr 15 (.nck (zt 14)),zr 16 (.fa 0 (zt 15)),zr 17 (.ld (zt 16)),zr 18 (.lenl (zt 17)),zf 19 (.mks 4 1 (.bool false) (zt 18) (zt 18)),za 9 (zt 19)])
  (.seq (.seq (.run [zr 20 (.mv (zt 0)),zr 21 (.nck (zt 20)),zr 22 (.fa 0 (zt 21)),zr 23 (.ld (zt 22)),zr 24 (.lenl (zt 23)),zr 25 (.mv (zi 0))])
  (.block 0 (.loop rc77_4)))
  rc77_5)))
def ce77 : List (Nat × List Nat × List Nat) := []
def ro77 : List RO := [(.mv (zt 8))]
theorem ok77 : okFn Tryz.prog 77 84 ce77 = some (rc77,ro77) := by kernel_rfl
def rc78_0 : RC := (.seq (.block 1 (.seq (.run [zr 11 (.mv (zt 9)),zr 12 (.ia 1 (zt 7) (zt 9)),zr 13 (.ld (zt 12)),za 5 (zt 11),za 6 (zt 13)])
  (.seq (.run [zr 14 (.mv (zt 6)),zr 15 (.mv (zt 14)),zg 16 15 true (.mv (zt 5)),zg 17 15 true (.mv (zt 0)),zg 18 15 true (.nck (zt 17)),zg 19 15 true (.fa 3 (zt 18)),zg 20 15 true (.ld (zt 19)),zg 21 15 true (.lenl (zt 20)),zg 22 15 true (.bin .lss (zt 16) (zt 21)),zr 23 (.pick (zt 15) (zt 22) (.const (.bool false))),zr 24 (.mv (zt 23)),zg 25 24 true (.mv (zt 0)),zg 26 24 true (.nck (zt 25)),zg 27 24 true (.fa 3 (zt 26)),zg 28 24 true (.ld (zt 27)),zg 29 24 true (.mv (zt 5)),zg 30 24 true (.ia 1 (zt 28) (zt 29)),zg 31 24 true (.ld (zt 30)),zr 32 (.pick (zt 24) (zt 31) (.const (.bool false)))])
  (.cond (zt 32)
  (.seq (.run [za 4 (.const (.bool true))])
  .ret)
  .skip))))
  (.run [zr 33 (.bin .add (zt 9) (zi 1)),zr 9 (.mv (zt 33))]))
def rc78_1 : RC := (.seq (.run [zr 10 (.bin .lss (zt 9) (zt 8))])
  (.seq (.cond (zt 10)
  .skip
  (.exit 0))
  rc78_0))
def rc78_2 : RC := (.seq (.run [za 4 (.const (.bool false))])
  .ret)
def rc78 : RC := (.seq (.run [za 4 (.const (.bool false))])
  (.seq (.seq (.run [zr 7 (.mv (zt 1)),zr 8 (.lenl (zt 7)),zr 9 (.mv (zi 0))])
  (.block 0 (.loop rc78_1)))
  rc78_2))
def ce78 : List (Nat × List Nat × List Nat) := []
def ro78 : List RO := [(.mv (zt 4))]
theorem ok78 : okFn Tryz.prog 78 34 ce78 = some (rc78,ro78) := by kernel_rfl
def rc84 : RC := (.seq (.run [za 4 (.const .nilIface)])
  (.seq (.run [zr 5 (.mv (zt 0)),zr 6 (.mv (zt 1)),zr 7 (.bld [(.int .i64 0),(.int .i64 0)] [(0,1,(zt 5)),(1,1,(zt 6))]),zr 8 (.mki 240 (zt 7)),za 4 (zt 8)])
  .ret))
def ce84 : List (Nat × List Nat × List Nat) := []
def ro84 : List RO := [(.mv (zt 4))]
theorem ok84 : okFn Tryz.prog 84 9 ce84 = some (rc84,ro84) := by kernel_rfl
def rc85_0 : RC := (.block 1 (.seq (.run [zr 21 (.mv (zt 0)),zr 22 (.nck (zt 21)),zr 23 (.fa 1 (zt 22)),zr 24 (.ld (zt 23)),zr 25 (.bin .add (zt 24) (zi 1)),zr 26 (.nck (zt 21)),zr 27 (.fa 1 (zt 26)),ze (.st 1 (zt 27) (zt 25))])
  (.seq (.run [zf 8 (.al [(.int .i64 0),(.int .u64 0),(.int .u64 0),(.int .u64 0),(.int .u64 0),(.slice none 0 0)] 153)])
  (.seq (.run [zr 29 (.mv (zt 0)),zr 30 (.mv (zt 1)),zc 31 102 [(zt 29),(zt 30)],zr 28 (.mv (zt 31)),zr 32 (.ext 0 (zt 28)),zr 33 (.ext 1 (zt 28)),ze (.st 6 (zt 8) (zt 32)),za 7 (zt 33)])
  (.run [zr 34 (.ldn 6 (zt 6)),zr 35 (.ldn 6 (zt 8)),zf 36 (.bsl 153 6 2 [(.int .i64 0),(.int .u64 0),(.int .u64 0),(.int .u64 0),(.int .u64 0),(.slice none 0 0),(.int .i64 0),(.int .u64 0),(.int .u64 0),(.int .u64 0),(.int .u64 0),(.slice none 0 0)] [(0,6,(zt 34)),(6,6,(zt 35))]),zr 37 (.bld [(.int .i64 0),(.int .u64 0),(.int .u64 0),(.int .u64 0),(.int .u64 0),(.slice none 0 0)] [(0,1,(zi 3)),(5,1,(zt 36))]),ze (.st 6 (zt 6) (zt 37))])))))
def rc85_1 : RC := (.seq (.seq (.run [zr 15 (.mv (zt 7)),zr 16 (.eq false (.iface []) (zt 15) (.const .nilIface)),zr 17 (.mv (zt 16)),zg 18 17 true (.mv (zt 0)),⟨(some 19),(some (17,true)),(.c (.fn 103 [(zt 18),(.const (.int .u8 124))])),[]⟩,zr 20 (.pick (zt 17) (zt 19) (.const (.bool false)))])
  (.cond (zt 20)
  .skip
  (.exit 0)))
  rc85_0)
def rc85_2 : RC := (.seq (.run [zr 42 (.ldn 6 (zt 6)),ze (.st 6 (zt 4) (zt 42)),za 5 (.const .nilIface)])
  .ret)
def rc85_3 : RC := (.seq (.seq (.run [zr 38 (.mv (zt 7)),zr 39 (.eq true (.iface []) (zt 38) (.const .nilIface))])
  (.cond (zt 39)
  (.seq (.run [zr 40 (.bld [(.int .i64 0),(.int .u64 0),(.int .u64 0),(.int .u64 0),(.int .u64 0),(.slice none 0 0)] []),zr 41 (.mv (zt 7)),ze (.st 6 (zt 4) (zt 40)),za 5 (zt 41)])
  .ret)
  .skip))
  rc85_2)
def rc85 : RC := (.seq (.run [zf 4 (.al [(.int .i64 0),(.int .u64 0),(.int .u64 0),(.int .u64 0),(.int .u64 0),(.slice none 0 0)] 153),za 5 (.const .nilIface)])
  (.seq (.run [zr 10 (.mv (zt 0)),zr 11 (.mv (zt 1)),zc 12 102 [(zt 10),(zt 11)],zr 9 (.mv (zt 12)),zr 13 (.ext 0 (zt 9)),zr 14 (.ext 1 (zt 9)),zf 6 (.al [(.int .i64 0),(.int .u64 0),(.int .u64 0),(.int .u64 0),(.int .u64 0),(.slice none 0 0)] 153),ze (.st 6 (zt 6) (zt 13)),za 7 (zt 14)])
  (.seq (.block 0 (.loop rc85_1))
  rc85_3)))
def ce85 : List (Nat × List Nat × List Nat) := []
def ro85 : List RO := [(.ldn 6 (zt 4)),(.mv (zt 5))]
theorem ok85 : okFn Tryz.prog 85 43 ce85 = some (rc85,ro85) := by kernel_rfl
def rc86 : RC := (.seq (.run [za 2 (.const (.bool false))])
  (.seq (.run [zr 3 (.mv (zt 0)),zr 4 (.nck (zt 3)),zr 5 (.fa 1 (zt 4)),zr 6 (.ld (zt 5)),zr 7 (.mv (zt 0)),zr 8 (.nck (zt 7)),zr 9 (.fa 0 (zt 8)),zr 10 (.ld (zt 9)),zr 11 (.lens (zt 10)),zr 12 (.bin .lss (zt 6) (zt 11)),za 2 (zt 12)])
  .ret))
def ce86 : List (Nat × List Nat × List Nat) := [(1,[0,1,2,3,4,5,6,7,8,9,10],[0,1,3,7,0,16,48,112,240,511,1023])]
def ro86 : List RO := [(.mv (zt 2))]
theorem ok86 : okFn Tryz.prog 86 13 ce86 = some (rc86,ro86) := by kernel_rfl
def rc87 : RC := (.seq (.run [za 2 (.const .nilIface)])
  (.seq (.run [zr 3 (.mv (zt 0)),zr 4 (.nck (zt 3)),zr 5 (.fa 1 (zt 4)),zr 6 (.ld (zt 5)),zc 7 84 [(zi 8),(zt 6)],za 2 (zt 7)])
  .ret))
def ce87 : List (Nat × List Nat × List Nat) := []
def ro87 : List RO := [(.mv (zt 2))]
theorem ok87 : okFn Tryz.prog 87 8 ce87 = some (rc87,ro87) := by kernel_rfl
def rc88_0 : RC := (.run [⟨(some 6),none,(.e (.al [(.map none),(.map none),(.bool false)] 207)),[(42,none,.ld (zt 41)),(44,none,.ldn 6 (zt 43)),(48,none,.ld (zt 47)),(50,none,.ldn 6 (zt 49))]⟩,⟨(some 7),none,(.e (.al [(.map none),(.map none),(.bool false)] 207)),[(42,none,.ld (zt 41)),(44,none,.ldn 6 (zt 43)),(48,none,.ld (zt 47)),(50,none,.ldn 6 (zt 49))]⟩,ze (.st 3 (zt 6) (zt 45)),ze (.st 3 (zt 7) (zt 51))])
def rc88_1 : RC := (.run [⟨(some 7),none,(.e (.al [(.map none),(.map none),(.bool false)] 207)),[(42,none,.ld (zt 41)),(44,none,.ldn 6 (zt 43)),(48,none,.ld (zt 47)),(50,none,.ldn 6 (zt 49))]⟩,⟨(some 6),none,(.e (.al [(.map none),(.map none),(.bool false)] 207)),[(42,none,.ld (zt 41)),(44,none,.ldn 6 (zt 43)),(48,none,.ld (zt 47)),(50,none,.ldn 6 (zt 49))]⟩,ze (.st 3 (zt 6) (zt 45)),ze (.st 3 (zt 7) (zt 51))])
def rc88_2 : RC := (.fork [zc 51 88 [(zt 46),(zt 50)]]
  rc88_0
  rc88_1)
def rc88_3 : RC := (.run [zc 51 88 [(zt 46),(zt 50)],⟨(some 7),none,(.e (.al [(.map none),(.map none),(.bool false)] 207)),[(42,none,.ld (zt 41)),(44,none,.ldn 6 (zt 43)),(48,none,.ld (zt 47)),(50,none,.ldn 6 (zt 49))]⟩,ze (.st 3 (zt 6) (zt 45)),ze (.st 3 (zt 7) (zt 51))])
def rc88_4 : RC := (.run [⟨(some 7),none,(.e (.al [(.map none),(.map none),(.bool false)] 207)),[(42,none,.ld (zt 41)),(44,none,.ldn 6 (zt 43)),(48,none,.ld (zt 47)),(50,none,.ldn 6 (zt 49))]⟩,zc 51 88 [(zt 46),(zt 50)],ze (.st 3 (zt 6) (zt 45)),ze (.st 3 (zt 7) (zt 51))])
def rc88_5 : RC := (.fork [⟨(some 6),none,(.e (.al [(.map none),(.map none),(.bool false)] 207)),[(42,none,.ld (zt 41)),(44,none,.ldn 6 (zt 43)),(48,none,.ld (zt 47)),(50,none,.ldn 6 (zt 49))]⟩]
  rc88_3
  rc88_4)
def rc88_6 : RC := (.run [zc 51 88 [(zt 46),(zt 50)],⟨(some 6),none,(.e (.al [(.map none),(.map none),(.bool false)] 207)),[(42,none,.ld (zt 41)),(44,none,.ldn 6 (zt 43)),(48,none,.ld (zt 47)),(50,none,.ldn 6 (zt 49))]⟩,ze (.st 3 (zt 6) (zt 45)),ze (.st 3 (zt 7) (zt 51))])
def rc88_7 : RC := (.run [⟨(some 6),none,(.e (.al [(.map none),(.map none),(.bool false)] 207)),[(42,none,.ld (zt 41)),(44,none,.ldn 6 (zt 43)),(48,none,.ld (zt 47)),(50,none,.ldn 6 (zt 49))]⟩,zc 51 88 [(zt 46),(zt 50)],ze (.st 3 (zt 6) (zt 45)),ze (.st 3 (zt 7) (zt 51))])
def rc88_8 : RC := (.fork [⟨(some 7),none,(.e (.al [(.map none),(.map none),(.bool false)] 207)),[(42,none,.ld (zt 41)),(44,none,.ldn 6 (zt 43)),(48,none,.ld (zt 47)),(50,none,.ldn 6 (zt 49))]⟩]
  rc88_6
  rc88_7)
def rc88_9 : RC := (.fork []
  rc88_5
  rc88_8)
def rc88_10 : RC := (.fork [⟨(some 45),none,(.c (.fn 88 [(zt 40),(zt 44)])),[(48,none,.ld (zt 47)),(50,none,.ldn 6 (zt 49))]⟩]
  rc88_2
  rc88_9)
def rc88_11 : RC := (.fork [⟨(some 45),none,(.c (.fn 88 [(zt 40),(zt 44)])),[(48,none,.ld (zt 47)),(50,none,.ldn 6 (zt 49))]⟩]
  rc88_3
  rc88_4)
def rc88_12 : RC := (.run [⟨(some 7),none,(.e (.al [(.map none),(.map none),(.bool false)] 207)),[(42,none,.ld (zt 41)),(44,none,.ldn 6 (zt 43)),(48,none,.ld (zt 47)),(50,none,.ldn 6 (zt 49))]⟩,⟨(some 45),none,(.c (.fn 88 [(zt 40),(zt 44)])),[(48,none,.ld (zt 47)),(50,none,.ldn 6 (zt 49))]⟩,zc 51 88 [(zt 46),(zt 50)],ze (.st 3 (zt 6) (zt 45)),ze (.st 3 (zt 7) (zt 51))])
def rc88_13 : RC := (.fork [⟨(some 6),none,(.e (.al [(.map none),(.map none),(.bool false)] 207)),[(42,none,.ld (zt 41)),(44,none,.ldn 6 (zt 43)),(48,none,.ld (zt 47)),(50,none,.ldn 6 (zt 49))]⟩]
  rc88_11
  rc88_12)
def rc88_14 : RC := (.fork [⟨(some 45),none,(.c (.fn 88 [(zt 40),(zt 44)])),[(48,none,.ld (zt 47)),(50,none,.ldn 6 (zt 49))]⟩]
  rc88_6
  rc88_7)
def rc88_15 : RC := (.run [⟨(some 6),none,(.e (.al [(.map none),(.map none),(.bool false)] 207)),[(42,none,.ld (zt 41)),(44,none,.ldn 6 (zt 43)),(48,none,.ld (zt 47)),(50,none,.ldn 6 (zt 49))]⟩,⟨(some 45),none,(.c (.fn 88 [(zt 40),(zt 44)])),[(48,none,.ld (zt 47)),(50,none,.ldn 6 (zt 49))]⟩,zc 51 88 [(zt 46),(zt 50)],ze (.st 3 (zt 6) (zt 45)),ze (.st 3 (zt 7) (zt 51))])
def rc88_16 : RC := (.fork [⟨(some 7),none,(.e (.al [(.map none),(.map none),(.bool false)] 207)),[(42,none,.ld (zt 41)),(44,none,.ldn 6 (zt 43)),(48,none,.ld (zt 47)),(50,none,.ldn 6 (zt 49))]⟩]
  rc88_14
  rc88_15)
def rc88_17 : RC := (.fork []
  rc88_13
  rc88_16)
def rc88_18 : RC := (.seq (.run [zr 52 (.mv (zt 0)),zr 53 (.fa 1 (zt 6)),zr 54 (.ld (zt 53)),zr 55 (.fa 0 (zt 7)),zr 56 (.ld (zt 55)),zc 57 104 [(zt 52),(zt 54),(zt 56)]])
  (.seq (.run [zr 58 (.fa 0 (zt 6)),zr 59 (.ld (zt 58)),zr 60 (.fa 2 (zt 6)),zr 61 (.ld (zt 60)),zr 62 (.fa 0 (zt 7)),zr 63 (.ld (zt 62)),zr 66 (.fa 1 (zt 7)),zr 67 (.ld (zt 66)),zr 68 (.fa 2 (zt 7)),zr 69 (.ld (zt 68)),zr 70 (.fa 1 (zt 6)),zr 71 (.ld (zt 70)),zr 74 (.fa 2 (zt 6)),zr 75 (.ld (zt 74)),⟨(some 64),none,(.c (.fn 106 [(zt 61),(zt 63)])),[(59,none,.ld (zt 58)),(67,none,.ld (zt 66)),(69,none,.ld (zt 68)),(71,none,.ld (zt 70)),(75,none,.ld (zt 74))]⟩,⟨(some 65),none,(.c (.fn 105 [(zt 59),(zt 64)])),[(67,none,.ld (zt 66)),(69,none,.ld (zt 68)),(71,none,.ld (zt 70)),(75,none,.ld (zt 74))]⟩,⟨(some 72),none,(.c (.fn 106 [(zt 69),(zt 71)])),[(67,none,.ld (zt 66)),(75,none,.ld (zt 74))]⟩,⟨(some 73),none,(.c (.fn 105 [(zt 67),(zt 72)])),[(75,none,.ld (zt 74))]⟩,zr 76 (.mv (zt 75)),zg 77 76 true (.fa 2 (zt 7)),zg 78 76 true (.ld (zt 77)),zr 79 (.pick (zt 76) (zt 78) (.const (.bool false))),zr 80 (.bld [(.map none),(.map none),(.bool false)] [(0,1,(zt 65)),(1,1,(zt 73)),(2,1,(zt 79))]),ze (.st 3 (zt 4) (zt 80))])
  .ret))
def rc88_19 : RC := (.run [⟨(some 8),none,(.e (.al [(.map none),(.map none),(.bool false)] 207)),[(85,none,.ld (zt 84)),(87,none,.ldn 6 (zt 86)),(91,none,.ld (zt 90)),(93,none,.ldn 6 (zt 92))]⟩,⟨(some 9),none,(.e (.al [(.map none),(.map none),(.bool false)] 207)),[(85,none,.ld (zt 84)),(87,none,.ldn 6 (zt 86)),(91,none,.ld (zt 90)),(93,none,.ldn 6 (zt 92))]⟩,ze (.st 3 (zt 8) (zt 88)),ze (.st 3 (zt 9) (zt 94))])
def rc88_20 : RC := (.run [⟨(some 9),none,(.e (.al [(.map none),(.map none),(.bool false)] 207)),[(85,none,.ld (zt 84)),(87,none,.ldn 6 (zt 86)),(91,none,.ld (zt 90)),(93,none,.ldn 6 (zt 92))]⟩,⟨(some 8),none,(.e (.al [(.map none),(.map none),(.bool false)] 207)),[(85,none,.ld (zt 84)),(87,none,.ldn 6 (zt 86)),(91,none,.ld (zt 90)),(93,none,.ldn 6 (zt 92))]⟩,ze (.st 3 (zt 8) (zt 88)),ze (.st 3 (zt 9) (zt 94))])
def rc88_21 : RC := (.fork [zc 94 88 [(zt 89),(zt 93)]]
  rc88_19
  rc88_20)
def rc88_22 : RC := (.run [zc 94 88 [(zt 89),(zt 93)],⟨(some 9),none,(.e (.al [(.map none),(.map none),(.bool false)] 207)),[(85,none,.ld (zt 84)),(87,none,.ldn 6 (zt 86)),(91,none,.ld (zt 90)),(93,none,.ldn 6 (zt 92))]⟩,ze (.st 3 (zt 8) (zt 88)),ze (.st 3 (zt 9) (zt 94))])
def rc88_23 : RC := (.run [⟨(some 9),none,(.e (.al [(.map none),(.map none),(.bool false)] 207)),[(85,none,.ld (zt 84)),(87,none,.ldn 6 (zt 86)),(91,none,.ld (zt 90)),(93,none,.ldn 6 (zt 92))]⟩,zc 94 88 [(zt 89),(zt 93)],ze (.st 3 (zt 8) (zt 88)),ze (.st 3 (zt 9) (zt 94))])
def rc88_24 : RC := (.fork [⟨(some 8),none,(.e (.al [(.map none),(.map none),(.bool false)] 207)),[(85,none,.ld (zt 84)),(87,none,.ldn 6 (zt 86)),(91,none,.ld (zt 90)),(93,none,.ldn 6 (zt 92))]⟩]
  rc88_22
  rc88_23)
def rc88_25 : RC := (.run [zc 94 88 [(zt 89),(zt 93)],⟨(some 8),none,(.e (.al [(.map none),(.map none),(.bool false)] 207)),[(85,none,.ld (zt 84)),(87,none,.ldn 6 (zt 86)),(91,none,.ld (zt 90)),(93,none,.ldn 6 (zt 92))]⟩,ze (.st 3 (zt 8) (zt 88)),ze (.st 3 (zt 9) (zt 94))])
def rc88_26 : RC := (.run [⟨(some 8),none,(.e (.al [(.map none),(.map none),(.bool false)] 207)),[(85,none,.ld (zt 84)),(87,none,.ldn 6 (zt 86)),(91,none,.ld (zt 90)),(93,none,.ldn 6 (zt 92))]⟩,zc 94 88 [(zt 89),(zt 93)],ze (.st 3 (zt 8) (zt 88)),ze (.st 3 (zt 9) (zt 94))])
def rc88_27 : RC := (.fork [⟨(some 9),none,(.e (.al [(.map none),(.map none),(.bool false)] 207)),[(85,none,.ld (zt 84)),(87,none,.ldn 6 (zt 86)),(91,none,.ld (zt 90)),(93,none,.ldn 6 (zt 92))]⟩]
  rc88_25
  rc88_26)
def rc88_28 : RC := (.fork []
  rc88_24
  rc88_27)
def rc88_29 : RC := (.fork [⟨(some 88),none,(.c (.fn 88 [(zt 83),(zt 87)])),[(91,none,.ld (zt 90)),(93,none,.ldn 6 (zt 92))]⟩]
  rc88_21
  rc88_28)
def rc88_30 : RC := (.fork [⟨(some 88),none,(.c (.fn 88 [(zt 83),(zt 87)])),[(91,none,.ld (zt 90)),(93,none,.ldn 6 (zt 92))]⟩]
  rc88_22
  rc88_23)
def rc88_31 : RC := (.run [⟨(some 9),none,(.e (.al [(.map none),(.map none),(.bool false)] 207)),[(85,none,.ld (zt 84)),(87,none,.ldn 6 (zt 86)),(91,none,.ld (zt 90)),(93,none,.ldn 6 (zt 92))]⟩,⟨(some 88),none,(.c (.fn 88 [(zt 83),(zt 87)])),[(91,none,.ld (zt 90)),(93,none,.ldn 6 (zt 92))]⟩,zc 94 88 [(zt 89),(zt 93)],ze (.st 3 (zt 8) (zt 88)),ze (.st 3 (zt 9) (zt 94))])
def rc88_32 : RC := (.fork [⟨(some 8),none,(.e (.al [(.map none),(.map none),(.bool false)] 207)),[(85,none,.ld (zt 84)),(87,none,.ldn 6 (zt 86)),(91,none,.ld (zt 90)),(93,none,.ldn 6 (zt 92))]⟩]
  rc88_30
  rc88_31)
def rc88_33 : RC := (.fork [⟨(some 88),none,(.c (.fn 88 [(zt 83),(zt 87)])),[(91,none,.ld (zt 90)),(93,none,.ldn 6 (zt 92))]⟩]
  rc88_25
  rc88_26)
def rc88_34 : RC := (.run [⟨(some 8),none,(.e (.al [(.map none),(.map none),(.bool false)] 207)),[(85,none,.ld (zt 84)),(87,none,.ldn 6 (zt 86)),(91,none,.ld (zt 90)),(93,none,.ldn 6 (zt 92))]⟩,⟨(some 88),none,(.c (.fn 88 [(zt 83),(zt 87)])),[(91,none,.ld (zt 90)),(93,none,.ldn 6 (zt 92))]⟩,zc 94 88 [(zt 89),(zt 93)],ze (.st 3 (zt 8) (zt 88)),ze (.st 3 (zt 9) (zt 94))])
def rc88_35 : RC := (.fork [⟨(some 9),none,(.e (.al [(.map none),(.map none),(.bool false)] 207)),[(85,none,.ld (zt 84)),(87,none,.ldn 6 (zt 86)),(91,none,.ld (zt 90)),(93,none,.ldn 6 (zt 92))]⟩]
  rc88_33
  rc88_34)
def rc88_36 : RC := (.fork []
  rc88_32
  rc88_35)
def rc88_37 : RC := (.seq (.run [zr 95 (.fa 0 (zt 8)),zr 96 (.ld (zt 95)),zr 97 (.fa 0 (zt 9)),zr 98 (.ld (zt 97)),zr 100 (.fa 1 (zt 8)),zr 101 (.ld (zt 100)),zr 102 (.fa 1 (zt 9)),zr 103 (.ld (zt 102)),zr 105 (.fa 2 (zt 8)),zr 106 (.ld (zt 105)),⟨(some 99),none,(.c (.fn 105 [(zt 96),(zt 98)])),[(101,none,.ld (zt 100)),(103,none,.ld (zt 102)),(106,none,.ld (zt 105))]⟩,⟨(some 104),none,(.c (.fn 105 [(zt 101),(zt 103)])),[(106,none,.ld (zt 105))]⟩,zr 107 (.mv (zt 106)),zg 108 107 false (.fa 2 (zt 9)),zg 109 107 false (.ld (zt 108)),zr 110 (.pick (zt 107) (.const (.bool true)) (zt 109)),zr 111 (.bld [(.map none),(.map none),(.bool false)] [(0,1,(zt 99)),(1,1,(zt 104)),(2,1,(zt 110))]),ze (.st 3 (zt 4) (zt 111))])
  .ret)
def rc88_38 : RC := (.seq (.run [zr 131 (.bld [(.map none),(.map none),(.bool false)] [(2,1,(.const (.bool true)))]),ze (.st 3 (zt 4) (zt 131))])
  .ret)
def rc88 : RC := (.seq (.run [zf 3 (.bx 153 (zt 1)),zf 4 (.al [(.map none),(.map none),(.bool false)] 207)])
  (.seq (.seq (.run [zr 11 (.fa 0 (zt 3)),zr 12 (.ld (zt 11))])
  (.block 0 (.seq (.run [zr 14 (.bin .eql (zt 12) (zi 1)),za 13 (zt 14)])
  (.cond (zt 13)
  (.seq (.run [zr 15 (.mv (zt 0)),zr 16 (.nck (zt 15)),zr 17 (.fa 0 (zt 16)),zr 18 (.ld (zt 17)),zr 19 (.lenl (zt 18)),za 5 (zt 19)])
  (.seq (.run [zr 20 (.mv (zt 0)),zr 21 (.mv (zt 0)),zr 22 (.nck (zt 21)),zr 23 (.fa 0 (zt 22)),zr 24 (.ld (zt 23)),zr 25 (.fa 1 (zt 3)),zr 26 (.ldn 4 (zt 25)),⟨(some 27),none,(.e (.bsl 150 4 1 [(.int .u64 0),(.int .u64 0),(.int .u64 0),(.int .u64 0)] [(0,4,(zt 26))])),[(24,none,.ld (zt 23))]⟩,zf 28 (.app 150 4 32 (zt 24) (zt 27)),zr 29 (.nck (zt 20)),zr 30 (.fa 0 (zt 29)),ze (.st 1 (zt 30) (zt 28))])
  (.seq (.run [zf 31 (.mkm),zr 32 (.mv (zt 5)),ze (.mup 0 (zt 31) (zt 32) (.const (.bool true))),zr 33 (.mv (zt 31)),zf 34 (.mkm),zr 35 (.mv (zt 5)),ze (.mup 0 (zt 34) (zt 35) (.const (.bool true))),zr 36 (.mv (zt 34)),zr 37 (.bld [(.map none),(.map none),(.bool false)] [(0,1,(zt 33)),(1,1,(zt 36)),(2,1,(.const (.bool false)))]),ze (.st 3 (zt 4) (zt 37))])
  .ret)))
  (.seq (.run [zr 39 (.bin .eql (zt 12) (zi 2)),za 38 (zt 39)])
  (.cond (zt 38)
  (.seq (.sem (.fork [zr 40 (.mv (zt 0)),zr 41 (.fa 5 (zt 3)),zr 42 (.ld (zt 41)),zr 43 (.ia 6 (zt 42) (zi 0)),zr 44 (.ldn 6 (zt 43)),zr 46 (.mv (zt 0)),zr 47 (.fa 5 (zt 3)),zr 48 (.ld (zt 47)),zr 49 (.ia 6 (zt 48) (zi 1)),zr 50 (.ldn 6 (zt 49))]
  rc88_10
  rc88_17))
  rc88_18)
  (.seq (.run [zr 82 (.bin .eql (zt 12) (zi 3)),za 81 (zt 82)])
  (.cond (zt 81)
  (.seq (.sem (.fork [zr 83 (.mv (zt 0)),zr 84 (.fa 5 (zt 3)),zr 85 (.ld (zt 84)),zr 86 (.ia 6 (zt 85) (zi 0)),zr 87 (.ldn 6 (zt 86)),zr 89 (.mv (zt 0)),zr 90 (.fa 5 (zt 3)),zr 91 (.ld (zt 90)),zr 92 (.ia 6 (zt 91) (zi 1)),zr 93 (.ldn 6 (zt 92))]
  rc88_29
  rc88_36))
  rc88_37)
  (.seq (.run [zr 113 (.bin .eql (zt 12) (zi 4)),za 112 (zt 113)])
  (.cond (zt 112)
  (.seq (.run [zr 114 (.mv (zt 0)),zr 115 (.fa 5 (zt 3)),zr 116 (.ld (zt 115)),zr 117 (.ia 6 (zt 116) (zi 0)),zr 118 (.ldn 6 (zt 117)),zc 119 88 [(zt 114),(zt 118)],zf 10 (.al [(.map none),(.map none),(.bool false)] 207),ze (.st 3 (zt 10) (zt 119))])
  (.seq (.run [zr 120 (.mv (zt 0)),zr 121 (.fa 1 (zt 10)),zr 122 (.ld (zt 121)),zr 123 (.fa 0 (zt 10)),zr 124 (.ld (zt 123)),zc 125 104 [(zt 120),(zt 122),(zt 124)]])
  (.seq (.run [zr 126 (.fa 0 (zt 10)),zr 127 (.ld (zt 126)),zr 128 (.fa 1 (zt 10)),zr 129 (.ld (zt 128)),zr 130 (.bld [(.map none),(.map none),(.bool false)] [(0,1,(zt 127)),(1,1,(zt 129)),(2,1,(.const (.bool true)))]),ze (.st 3 (zt 4) (zt 130))])
  .ret)))
  .skip))))))))))
  rc88_38))
def ce88 : List (Nat × List Nat × List Nat) := [(4,[0,1,2,3,4,5,6,7,8,9,10,11],[0,0,2,6,14,0,32,96,254,511,1023,2047]),(7,[0,1,2,3,4,6,7,8,9,10,1000,5,1000,11,1000,12,13,14,15,1001,13,12,14,15,1001,1000,12,1000,11,13,14,15,1001,13,11,14,15,1001,13,1000,11,12,14,15,1001,12,11,14,15,1001,1000,12,1000,5,1000,11,13,14,15,1001,13,11,14,15,1001,13,5,11,14,15,1001,13,1000,5,1000,11,12,14,15,1001,12,11,14,15,1001,12,5,11,14,15],[0,0,2,6,14,31,0,0,128,384,896,2047,0,0,16383,32767]),(9,[0,1,2,3,4,5,8,9,10,11,12,13,16,17,6,7,14,15,18,19,20,21,22,23],[0,1,0,4,0,16,60,127,0,256,0,1024,0,4096,15615,32767,0,65536,262143,524287,1048575,2097151,4194303,8388607]),(11,[0,1,2,3,4,6,7,8,9,10,1000,5,1000,11,1000,12,13,14,15,1001,13,12,14,15,1001,1000,12,1000,11,13,14,15,1001,13,11,14,15,1001,13,1000,11,12,14,15,1001,12,11,14,15,1001,1000,12,1000,5,1000,11,13,14,15,1001,13,11,14,15,1001,13,5,11,14,15,1001,13,1000,5,1000,11,12,14,15,1001,12,11,14,15,1001,12,5,11,14,15],[0,0,2,6,14,31,0,0,128,384,896,2047,0,0,16383,32767]),(12,[0,1,2,3,5,6,7,8,10,11,4,9,12,13,14,15,16,17],[0,1,0,4,15,0,32,0,128,511,0,1024,4095,8191,16383,32767,65535,131071])]
def ro88 : List RO := [(.ldn 3 (zt 4))]
theorem ok88 : okFn Tryz.prog 88 132 ce88 = some (rc88,ro88) := by kernel_rfl
def rc92_0 : RC := (.block 1 (.seq (.run [zr 47 (.mv (zt 13)),zr 48 (.bin .sub (zt 47) (zi 1)),za 13 (zt 48)])
  (.seq (.run [zr 49 (.mv (zt 13)),zr 50 (.mv (zt 1)),zr 51 (.mv (zt 16)),zr 52 (.bin .and (zt 50) (zt 51)),zr 53 (.ixs (.const (.string ⟨#[48,49,50,51,52,53,54,55,56,57,97,98,99,100,101,102,103,104,105,106,107,108,109,110,111,112,113,114,115,116,117,118,119,120,121,122]⟩)) (zt 52)),zr 54 (.iaa 65 1 (zt 12) (zt 49)),ze (.st 1 (zt 54) (zt 53))])
  (.run [zr 55 (.mv (zt 1)),zr 56 (.mv (zt 14)),zr 57 (.bin .shr (zt 55) (zt 56)),za 1 (zt 57)]))))
def rc92_1 : RC := (.seq (.seq (.run [zr 44 (.mv (zt 1)),zr 45 (.mv (zt 15)),zr 46 (.bin .geq (zt 44) (zt 45))])
  (.cond (zt 46)
  .skip
  (.exit 0)))
  rc92_0)
def rc92_2 : RC := (.seq (.run [zr 58 (.mv (zt 13)),zr 59 (.bin .sub (zt 58) (zi 1)),za 13 (zt 59)])
  (.run [zr 60 (.mv (zt 13)),zr 61 (.mv (zt 1)),zr 62 (.ixs (.const (.string ⟨#[48,49,50,51,52,53,54,55,56,57,97,98,99,100,101,102,103,104,105,106,107,108,109,110,111,112,113,114,115,116,117,118,119,120,121,122]⟩)) (zt 61)),zr 63 (.iaa 65 1 (zt 12) (zt 60)),ze (.st 1 (zt 63) (zt 62))]))
def rc92_3 : RC := (.block 3 (.seq (.run [zr 69 (.mv (zt 13)),zr 70 (.bin .sub (zt 69) (zi 1)),za 13 (zt 70)])
  (.seq (.run [zr 71 (.mv (zt 1)),zr 72 (.mv (zt 17)),zr 73 (.bin .quo (zt 71) (zt 72)),za 18 (zt 73)])
  (.seq (.run [zr 74 (.mv (zt 13)),zr 75 (.mv (zt 1)),zr 76 (.mv (zt 18)),zr 77 (.mv (zt 17)),zr 78 (.bin .mul (zt 76) (zt 77)),zr 79 (.bin .sub (zt 75) (zt 78)),zr 80 (.ixs (.const (.string ⟨#[48,49,50,51,52,53,54,55,56,57,97,98,99,100,101,102,103,104,105,106,107,108,109,110,111,112,113,114,115,116,117,118,119,120,121,122]⟩)) (zt 79)),zr 81 (.iaa 65 1 (zt 12) (zt 74)),ze (.st 1 (zt 81) (zt 80))])
  (.run [zr 82 (.mv (zt 18)),za 1 (zt 82)])))))
def rc92_4 : RC := (.seq (.seq (.run [zr 66 (.mv (zt 1)),zr 67 (.mv (zt 17)),zr 68 (.bin .geq (zt 66) (zt 67))])
  (.cond (zt 68)
  .skip
  (.exit 2)))
  rc92_3)
def rc92_5 : RC := (.seq (.run [zr 83 (.mv (zt 13)),zr 84 (.bin .sub (zt 83) (zi 1)),za 13 (zt 84)])
  (.run [zr 85 (.mv (zt 13)),zr 86 (.mv (zt 1)),zr 87 (.ixs (.const (.string ⟨#[48,49,50,51,52,53,54,55,56,57,97,98,99,100,101,102,103,104,105,106,107,108,109,110,111,112,113,114,115,116,117,118,119,120,121,122]⟩)) (zt 86)),zr 88 (.iaa 65 1 (zt 12) (zt 85)),ze (.st 1 (zt 88) (zt 87))]))
def rc92_6 : RC := (.seq (.run [zr 99 (.mv (zt 13)),zr 100 (.sla 65 1 (zt 12) (some (zt 99)) none),zr 101 (.b2s (zt 100)),za 11 (zt 101)])
  .ret)
def rc92_7 : RC := (.seq (.seq (.run [zr 94 (.mv (zt 4))])
  (.cond (zt 94)
  (.seq (.run [zr 95 (.mv (zt 0)),zr 96 (.mv (zt 13)),zr 97 (.sla 65 1 (zt 12) (some (zt 96)) none),zf 98 (.app 5 1 1 (zt 95) (zt 97)),za 10 (zt 98)])
  .ret)
  .skip))
  rc92_6)
def rc92_8 : RC := (.seq (.seq (.run [zr 89 (.mv (zt 3))])
  (.cond (zt 89)
  (.seq (.run [zr 90 (.mv (zt 13)),zr 91 (.bin .sub (zt 90) (zi 1)),za 13 (zt 91)])
  (.run [zr 92 (.mv (zt 13)),zr 93 (.iaa 65 1 (zt 12) (zt 92)),ze (.st 1 (zt 93) (.const (.int .u8 45)))]))
  .skip))
  rc92_7)
def rc92_9 : RC := (.seq (.seq (.run [zr 33 (.mv (zt 2)),zc 34 110 [(zt 33)]])
  (.cond (zt 34)
  (.seq (.run [zr 35 (.mv (zt 2)),zr 36 (.cvi .u64 (zt 35)),zc 37 111 [(zt 36)],zr 38 (.cvi .u64 (zt 37)),za 14 (zt 38)])
  (.seq (.run [zr 39 (.mv (zt 2)),zr 40 (.cvi .u64 (zt 39)),za 15 (zt 40)])
  (.seq (.run [zr 41 (.mv (zt 2)),zr 42 (.cvi .u64 (zt 41)),zr 43 (.bin .sub (zt 42) (.const (.int .u64 1))),za 16 (zt 43)])
  (.seq (.block 0 (.loop rc92_1))
  rc92_2))))
  (.seq (.run [zr 64 (.mv (zt 2)),zr 65 (.cvi .u64 (zt 64)),za 17 (zt 65)])
  (.seq (.block 2 (.loop rc92_4))
  rc92_5))))
  rc92_8)
def rc92_10 : RC := (.seq (.run [zf 12 (.al [(.int .u8 0),(.int .u8 0),(.int .u8 0),(.int .u8 0),(.int .u8 0),(.int .u8 0),(.int .u8 0),(.int .u8 0),(.int .u8 0),(.int .u8 0),(.int .u8 0),(.int .u8 0),(.int .u8 0),(.int .u8 0),(.int .u8 0),(.int .u8 0),(.int .u8 0),(.int .u8 0),(.int .u8 0),(.int .u8 0),(.int .u8 0),(.int .u8 0),(.int .u8 0),(.int .u8 0),(.int .u8 0),(.int .u8 0),(.int .u8 0),(.int .u8 0),(.int .u8 0),(.int .u8 0),(.int .u8 0),(.int .u8 0),(.int .u8 0),(.int .u8 0),(.int .u8 0),(.int .u8 0),(.int .u8 0),(.int .u8 0),(.int .u8 0),(.int .u8 0),(.int .u8 0),(.int .u8 0),(.int .u8 0),(.int .u8 0),(.int .u8 0),(.int .u8 0),(.int .u8 0),(.int .u8 0),(.int .u8 0),(.int .u8 0),(.int .u8 0),(.int .u8 0),(.int .u8 0),(.int .u8 0),(.int .u8 0),(.int .u8 0),(.int .u8 0),(.int .u8 0),(.int .u8 0),(.int .u8 0),(.int .u8 0),(.int .u8 0),(.int .u8 0),(.int .u8 0),(.int .u8 0)] 247)])
  (.seq (.run [za 13 (zi 65)])
  (.seq (.seq (.run [zr 30 (.mv (zt 3))])
  (.cond (zt 30)
  (.run [zr 31 (.mv (zt 1)),zr 32 (.neg (zt 31)),za 1 (zt 32)])
  .skip))
  rc92_9)))
def rc92 : RC := (.seq (.run [za 10 (.const (.slice none 0 0)),za 11 (.const (.string ⟨#[]⟩))])
  (.seq (.seq (.run [zr 19 (.mv (zt 2)),zr 20 (.bin .lss (zt 19) (zi 2)),zr 21 (.mv (zt 20)),zg 22 21 false (.mv (zt 2)),zg 23 21 false (.bin .eql (zt 22) (zi 10)),zr 24 (.pick (zt 21) (.const (.bool true)) (zt 23)),zr 25 (.mv (zt 24)),zg 26 25 false (.mv (zt 2)),zg 27 25 false (.bin .gtr (zt 26) (zi 36)),zr 28 (.pick (zt 25) (.const (.bool true)) (zt 27))])
  (.cond (zt 28)
  (.run [zr 29 (.mki 9 (.const (.string ⟨#[115,116,114,99,111,110,118,58,32,105,108,108,101,103,97,108,32,65,112,112,101,110,100,73,110,116,47,70,111,114,109,97,116,73,110,116,32,98,97,115,101]⟩))),⟨none,none,.bad,[]⟩])
  .skip))
  rc92_10))
def ce92 : List (Nat × List Nat × List Nat) := []
def ro92 : List RO := [(.mv (zt 10)),(.mv (zt 11))]
theorem ok92 : okFn Tryz.prog 92 102 ce92 = some (rc92,ro92) := by kernel_rfl
def rc95 : RC := (.seq (.run [zf 1 (.bx 23 (zt 0)),zf 2 (.al [(.int .i64 0),(.int .i64 0)] 23)])
  (.seq (.run [zr 3 (.fa 0 (zt 1)),zr 4 (.ld (zt 3)),zr 5 (.mn (zt 4) (zi 9)),zr 6 (.mx (zi 1) (zt 5)),zr 7 (.fa 1 (zt 1)),zr 8 (.ld (zt 7)),zr 9 (.mn (zt 8) (zi 99)),zr 10 (.mx (zi 1) (zt 9)),zr 11 (.bld [(.int .i64 0),(.int .i64 0)] [(0,1,(zt 6)),(1,1,(zt 10))]),ze (.st 2 (zt 2) (zt 11))])
  .ret))
def ce95 : List (Nat × List Nat × List Nat) := []
def ro95 : List RO := [(.ldn 2 (zt 2))]
theorem ok95 : okFn Tryz.prog 95 12 ce95 = some (rc95,ro95) := by kernel_rfl
def rc96 : RC := (.seq (.run [zf 2 (.bx 150 (zt 0)),za 4 (.const (.bool false))])
  (.seq (.run [zr 5 (.mv (zt 1)),zr 6 (.bin .quo (zt 5) (.const (.int .u8 64))),zr 7 (.iaa 4 1 (zt 2) (zt 6)),zr 8 (.ld (zt 7)),zr 9 (.mv (zt 1)),zr 10 (.bin .rem (zt 9) (.const (.int .u8 64))),zr 11 (.bin .shr (zt 8) (zt 10)),zr 12 (.bin .and (zt 11) (.const (.int .u64 1))),zr 13 (.bin .eql (zt 12) (.const (.int .u64 1))),za 4 (zt 13)])
  .ret))
def ce96 : List (Nat × List Nat × List Nat) := []
def ro96 : List RO := [(.mv (zt 4))]
theorem ok96 : okFn Tryz.prog 96 14 ce96 = some (rc96,ro96) := by kernel_rfl
def rc102_0 : RC := (.seq (.seq (.run [zr 33 (.mv (zt 7))])
  (.cond (zt 33)
  (.seq (.run [zr 34 (.ldn 6 (zt 8)),ze (.st 6 (zt 6) (zt 34))])
  (.exit 1))
  .skip))
  (.run [zr 35 (.ldn 6 (zt 6)),zr 36 (.ldn 6 (zt 8)),zf 37 (.bsl 153 6 2 [(.int .i64 0),(.int .u64 0),(.int .u64 0),(.int .u64 0),(.int .u64 0),(.slice none 0 0),(.int .i64 0),(.int .u64 0),(.int .u64 0),(.int .u64 0),(.int .u64 0),(.slice none 0 0)] [(0,6,(zt 35)),(6,6,(zt 36))]),zr 38 (.bld [(.int .i64 0),(.int .u64 0),(.int .u64 0),(.int .u64 0),(.int .u64 0),(.slice none 0 0)] [(0,1,(zi 2)),(5,1,(zt 37))]),ze (.st 6 (zt 6) (zt 38))]))
def rc102_1 : RC := (.seq (.block 1 (.seq (.run [zr 24 (.mv (zt 0)),zr 25 (.mv (zt 1)),zc 26 118 [(zt 24),(zt 25)],zr 23 (.mv (zt 26)),zr 27 (.ext 0 (zt 23)),zr 28 (.ext 1 (zt 23)),zf 8 (.al [(.int .i64 0),(.int .u64 0),(.int .u64 0),(.int .u64 0),(.int .u64 0),(.slice none 0 0)] 153),ze (.st 6 (zt 8) (zt 27)),za 9 (zt 28)])
  (.seq (.seq (.run [zr 29 (.mv (zt 9)),zr 30 (.eq true (.iface []) (zt 29) (.const .nilIface))])
  (.cond (zt 30)
  (.seq (.run [zr 31 (.bld [(.int .i64 0),(.int .u64 0),(.int .u64 0),(.int .u64 0),(.int .u64 0),(.slice none 0 0)] []),zr 32 (.mv (zt 9)),ze (.st 6 (zt 4) (zt 31)),za 5 (zt 32)])
  .ret)
  .skip))
  rc102_0)))
  (.run [za 7 (.const (.bool false))]))
def rc102_2 : RC := (.seq (.seq (.run [zr 11 (.mv (zt 0)),zc 12 86 [(zt 11)],zr 13 (.mv (zt 12)),zg 14 13 true (.mv (zt 0)),⟨(some 15),(some (13,true)),(.c (.fn 103 [(zt 14),(.const (.int .u8 124))])),[]⟩,zg 16 13 true (.not (zt 15)),zr 17 (.pick (zt 13) (zt 16) (.const (.bool false))),zr 18 (.mv (zt 17)),zg 19 18 true (.mv (zt 0)),⟨(some 20),(some (18,true)),(.c (.fn 103 [(zt 19),(.const (.int .u8 41))])),[]⟩,zg 21 18 true (.not (zt 20)),zr 22 (.pick (zt 18) (zt 21) (.const (.bool false)))])
  (.cond (zt 22)
  .skip
  (.exit 0)))
  rc102_1)
def rc102_3 : RC := (.seq (.run [zr 39 (.ldn 6 (zt 6)),ze (.st 6 (zt 4) (zt 39)),za 5 (.const .nilIface)])
  .ret)
def rc102 : RC := (.seq (.run [zf 4 (.al [(.int .i64 0),(.int .u64 0),(.int .u64 0),(.int .u64 0),(.int .u64 0),(.slice none 0 0)] 153),za 5 (.const .nilIface)])
  (.seq (.run [zr 10 (.bld [(.int .i64 0),(.int .u64 0),(.int .u64 0),(.int .u64 0),(.int .u64 0),(.slice none 0 0)] []),zf 6 (.al [(.int .i64 0),(.int .u64 0),(.int .u64 0),(.int .u64 0),(.int .u64 0),(.slice none 0 0)] 153),ze (.st 6 (zt 6) (zt 10))])
  (.seq (.seq (.run [za 7 (.const (.bool true))])
  (.block 0 (.loop rc102_2)))
  rc102_3)))
def ce102 : List (Nat × List Nat × List Nat) := []
def ro102 : List RO := [(.ldn 6 (zt 4)),(.mv (zt 5))]
theorem ok102 : okFn Tryz.prog 102 40 ce102 = some (rc102,ro102) := by kernel_rfl
def rc103 : RC := (.seq (.run [za 4 (.const (.bool false))])
  (.seq (.run [zr 5 (.mv (zt 0)),zc 6 86 [(zt 5)],zr 7 (.mv (zt 6)),zg 8 7 true (.mv (zt 0)),zg 9 7 true (.nck (zt 8)),zg 10 7 true (.fa 0 (zt 9)),zg 11 7 true (.ld (zt 10)),zg 12 7 true (.mv (zt 0)),zg 13 7 true (.nck (zt 12)),zg 14 7 true (.fa 1 (zt 13)),zg 15 7 true (.ld (zt 14)),zg 16 7 true (.ixs (zt 11) (zt 15)),zg 17 7 true (.mv (zt 1)),zg 18 7 true (.bin .eql (zt 16) (zt 17)),zr 19 (.pick (zt 7) (zt 18) (.const (.bool false))),za 4 (zt 19)])
  .ret))
def ce103 : List (Nat × List Nat × List Nat) := [(1,[0,1,2,3,4,5,6,7,8,9,10,11,12,13,14,15],[0,1,3,7,15,31,63,7,135,391,903,2047,7,8191,16383,32767])]
def ro103 : List RO := [(.mv (zt 4))]
theorem ok103 : okFn Tryz.prog 103 20 ce103 = some (rc103,ro103) := by kernel_rfl
def rc104_0 : RC := (.block 3 (.seq (.run [zr 18 (.ent (zt 15)),zr 19 (.ext 0 (zt 18)),za 7 (zt 19)])
  (.run [zr 20 (.mv (zt 0)),zr 21 (.nck (zt 20)),zr 22 (.fa 1 (zt 21)),zr 23 (.ld (zt 22)),zr 24 (.mv (zt 6)),zr 25 (.mv (zt 7)),zr 26 (.bld [(.int .i64 0),(.int .i64 0)] [(0,1,(zt 24)),(1,1,(zt 25))]),ze (.mup 2 (zt 23) (zt 26) (.const (.bool true)))])))
def rc104_1 : RC := (.seq (.run [⟨(some 16),none,(.nx (zt 15)),[]⟩,zr 17 (.ext 0 (zt 16))])
  (.seq (.cond (zt 17)
  .skip
  (.exit 2))
  rc104_0))
def rc104_2 : RC := (.block 1 (.seq (.run [zr 12 (.ent (zt 9)),zr 13 (.ext 0 (zt 12)),za 6 (zt 13)])
  (.seq (.run [zr 14 (.mv (zt 2)),zf 15 (.rgm (zt 14))])
  (.block 2 (.loop rc104_1)))))
def rc104_3 : RC := (.seq (.run [⟨(some 10),none,(.nx (zt 9)),[]⟩,zr 11 (.ext 0 (zt 10))])
  (.seq (.cond (zt 11)
  .skip
  (.exit 0))
  rc104_2))
def rc104 : RC := (.seq (.run [zr 8 (.mv (zt 1)),zf 9 (.rgm (zt 8))])
  (.block 0 (.loop rc104_3)))
def ce104 : List (Nat × List Nat × List Nat) := []
def ro104 : List RO := []
theorem ok104 : okFn Tryz.prog 104 27 ce104 = some (rc104,ro104) := by kernel_rfl
def rc105_0 : RC := (.block 1 (.seq (.run [zr 13 (.ent (zt 10)),zr 14 (.ext 0 (zt 13)),za 6 (zt 14)])
  (.run [zr 15 (.mv (zt 5)),zr 16 (.mv (zt 6)),ze (.mup 0 (zt 15) (zt 16) (.const (.bool true)))])))
def rc105_1 : RC := (.seq (.run [⟨(some 11),none,(.nx (zt 10)),[]⟩,zr 12 (.ext 0 (zt 11))])
  (.seq (.cond (zt 12)
  .skip
  (.exit 0))
  rc105_0))
def rc105_2 : RC := (.block 3 (.seq (.run [zr 21 (.ent (zt 18)),zr 22 (.ext 0 (zt 21)),za 7 (zt 22)])
  (.run [zr 23 (.mv (zt 5)),zr 24 (.mv (zt 7)),ze (.mup 0 (zt 23) (zt 24) (.const (.bool true)))])))
def rc105_3 : RC := (.seq (.run [⟨(some 19),none,(.nx (zt 18)),[]⟩,zr 20 (.ext 0 (zt 19))])
  (.seq (.cond (zt 20)
  .skip
  (.exit 2))
  rc105_2))
def rc105_4 : RC := (.seq (.run [zr 25 (.mv (zt 5)),za 4 (zt 25)])
  .ret)
def rc105_5 : RC := (.seq (.seq (.run [zr 17 (.mv (zt 1)),zf 18 (.rgm (zt 17))])
  (.block 2 (.loop rc105_3)))
  rc105_4)
def rc105 : RC := (.seq (.run [za 4 (.const (.map none))])
  (.seq (.run [zf 8 (.mkm),za 5 (zt 8)])
  (.seq (.seq (.run [zr 9 (.mv (zt 0)),zf 10 (.rgm (zt 9))])
  (.block 0 (.loop rc105_1)))
  rc105_5)))
def ce105 : List (Nat × List Nat × List Nat) := []
def ro105 : List RO := [(.mv (zt 4))]
theorem ok105 : okFn Tryz.prog 105 26 ce105 = some (rc105,ro105) := by kernel_rfl
def rc106_0 : RC := (.seq (.run [za 4 (.const (.map none))])
  .ret)
def rc106 : RC := (.seq (.run [za 4 (.const (.map none))])
  (.seq (.seq (.run [zr 5 (.mv (zt 0))])
  (.cond (zt 5)
  (.seq (.run [zr 6 (.mv (zt 1)),za 4 (zt 6)])
  .ret)
  .skip))
  rc106_0))
def ce106 : List (Nat × List Nat × List Nat) := []
def ro106 : List RO := [(.mv (zt 4))]
theorem ok106 : okFn Tryz.prog 106 7 ce106 = some (rc106,ro106) := by kernel_rfl
def rc110 : RC := (.seq (.run [za 2 (.const (.bool false))])
  (.seq (.run [zr 3 (.mv (zt 0)),zr 4 (.mv (zt 0)),zr 5 (.bin .sub (zt 4) (zi 1)),zr 6 (.bin .and (zt 3) (zt 5)),zr 7 (.bin .eql (zt 6) (zi 0)),za 2 (zt 7)])
  .ret))
def ce110 : List (Nat × List Nat × List Nat) := []
def ro110 : List RO := [(.mv (zt 2))]
theorem ok110 : okFn Tryz.prog 110 8 ce110 = some (rc110,ro110) := by kernel_rfl
def rc111_0 : RC := (.seq (.run [zr 6 (.mv (zt 0)),zc 7 120 [(zt 6)],za 2 (zt 7)])
  .ret)
def rc111 : RC := (.seq (.run [za 2 (zi 0)])
  (.seq (.cond (.const (.bool false))
  (.seq (.run [zr 3 (.mv (zt 0)),zr 4 (.cvi .u32 (zt 3)),zc 5 119 [(zt 4)],za 2 (zt 5)])
  .ret)
  .skip)
  rc111_0))
def ce111 : List (Nat × List Nat × List Nat) := []
def ro111 : List RO := [(.mv (zt 2))]
theorem ok111 : okFn Tryz.prog 111 8 ce111 = some (rc111,ro111) := by kernel_rfl
def rc118_0 : RC := (.seq (.run [zr 52 (.mv (zt 0)),zr 53 (.nck (zt 52)),zr 54 (.fa 1 (zt 53)),zr 55 (.ld (zt 54)),zr 56 (.bin .add (zt 55) (zi 1)),zr 57 (.nck (zt 52)),zr 58 (.fa 1 (zt 57)),ze (.st 1 (zt 58) (zt 56))])
  (.seq (.run [zr 59 (.ldn 6 (zt 6)),ze (.st 6 (zt 4) (zt 59)),za 5 (.const .nilIface)])
  .ret))
def rc118_1 : RC := (.seq (.seq (.run [zr 23 (.mv (zt 0)),zr 24 (.nck (zt 23)),zr 25 (.fa 0 (zt 24)),zr 26 (.ld (zt 25)),zr 27 (.mv (zt 0)),zr 28 (.nck (zt 27)),zr 29 (.fa 1 (zt 28)),zr 30 (.ld (zt 29)),zr 31 (.ixs (zt 26) (zt 30))])
  (.block 0 (.seq (.run [zr 34 (.bin .eql (zt 31) (.const (.int .u8 42))),za 33 (zt 34)])
  (.cond (zt 33)
  (.run [zr 35 (.ldn 6 (zt 6)),zf 36 (.bsl 153 6 1 [(.int .i64 0),(.int .u64 0),(.int .u64 0),(.int .u64 0),(.int .u64 0),(.slice none 0 0)] [(0,6,(zt 35))]),zr 37 (.bld [(.int .i64 0),(.int .u64 0),(.int .u64 0),(.int .u64 0),(.int .u64 0),(.slice none 0 0)] [(0,1,(zi 4)),(5,1,(zt 36))]),ze (.st 6 (zt 6) (zt 37))])
  (.seq (.run [zr 39 (.bin .eql (zt 31) (.const (.int .u8 43))),za 38 (zt 39)])
  (.cond (zt 38)
  (.run [zr 40 (.ldn 6 (zt 6)),zr 41 (.ldn 6 (zt 6)),zf 42 (.bsl 153 6 1 [(.int .i64 0),(.int .u64 0),(.int .u64 0),(.int .u64 0),(.int .u64 0),(.slice none 0 0)] [(0,6,(zt 41))]),zr 43 (.bld [(.int .i64 0),(.int .u64 0),(.int .u64 0),(.int .u64 0),(.int .u64 0),(.slice none 0 0)] [(0,1,(zi 4)),(5,1,(zt 42))]),zf 44 (.bsl 153 6 2 [(.int .i64 0),(.int .u64 0),(.int .u64 0),(.int .u64 0),(.int .u64 0),(.slice none 0 0),(.int .i64 0),(.int .u64 0),(.int .u64 0),(.int .u64 0),(.int .u64 0),(.slice none 0 0)] [(0,6,(zt 40)),(6,6,(zt 43))]),zr 45 (.bld [(.int .i64 0),(.int .u64 0),(.int .u64 0),(.int .u64 0),(.int .u64 0),(.slice none 0 0)] [(0,1,(zi 2)),(5,1,(zt 44))]),ze (.st 6 (zt 6) (zt 45))])
  (.seq (.run [zr 47 (.bin .eql (zt 31) (.const (.int .u8 63))),za 46 (zt 47)])
  (.cond (zt 46)
  (.run [zr 48 (.ldn 6 (zt 6)),zr 49 (.bld [(.int .i64 0),(.int .u64 0),(.int .u64 0),(.int .u64 0),(.int .u64 0),(.slice none 0 0)] []),zf 50 (.bsl 153 6 2 [(.int .i64 0),(.int .u64 0),(.int .u64 0),(.int .u64 0),(.int .u64 0),(.slice none 0 0),(.int .i64 0),(.int .u64 0),(.int .u64 0),(.int .u64 0),(.int .u64 0),(.slice none 0 0)] [(0,6,(zt 48)),(6,6,(zt 49))]),zr 51 (.bld [(.int .i64 0),(.int .u64 0),(.int .u64 0),(.int .u64 0),(.int .u64 0),(.slice none 0 0)] [(0,1,(zi 3)),(5,1,(zt 50))]),ze (.st 6 (zt 6) (zt 51))])
  (.seq (.run [zr 32 (.ldn 6 (zt 6)),ze (.st 6 (zt 4) (zt 32)),za 5 (.const .nilIface)])
  .ret)))))))))
  rc118_0)
def rc118 : RC := (.seq (.run [zf 4 (.al [(.int .i64 0),(.int .u64 0),(.int .u64 0),(.int .u64 0),(.int .u64 0),(.slice none 0 0)] 153),za 5 (.const .nilIface)])
  (.seq (.run [zr 9 (.mv (zt 0)),zr 10 (.mv (zt 1)),zc 11 126 [(zt 9),(zt 10)],zr 8 (.mv (zt 11)),zr 12 (.ext 0 (zt 8)),zr 13 (.ext 1 (zt 8)),zf 6 (.al [(.int .i64 0),(.int .u64 0),(.int .u64 0),(.int .u64 0),(.int .u64 0),(.slice none 0 0)] 153),ze (.st 6 (zt 6) (zt 12)),za 7 (zt 13)])
  (.seq (.seq (.run [zr 14 (.mv (zt 7)),zr 15 (.eq true (.iface []) (zt 14) (.const .nilIface)),zr 16 (.mv (zt 15)),zg 17 16 false (.mv (zt 0)),⟨(some 18),(some (16,false)),(.c (.fn 86 [(zt 17)])),[]⟩,zg 19 16 false (.not (zt 18)),zr 20 (.pick (zt 16) (.const (.bool true)) (zt 19))])
  (.cond (zt 20)
  (.seq (.run [zr 21 (.ldn 6 (zt 6)),zr 22 (.mv (zt 7)),ze (.st 6 (zt 4) (zt 21)),za 5 (zt 22)])
  .ret)
  .skip))
  rc118_1)))
def ce118 : List (Nat × List Nat × List Nat) := [(4,[0,1,2,3,4,5,6,7,8],[0,1,3,7,0,16,48,112,255])]
def ro118 : List RO := [(.ldn 6 (zt 4)),(.mv (zt 5))]
theorem ok118 : okFn Tryz.prog 118 60 ce118 = some (rc118,ro118) := by kernel_rfl
def rc119_0 : RC := (.seq (.run [zr 5 (.mv (zt 0)),zr 6 (.mv (zt 0)),zr 7 (.neg (zt 6)),zr 8 (.bin .and (zt 5) (zt 7)),zr 9 (.bin .mul (zt 8) (.const (.int .u32 125613361))),zr 10 (.bin .shr (zt 9) (.const (.int .u64 27))),zr 11 (.iaa 32 1 (.global 2) (zt 10)),zr 12 (.ld (zt 11)),zr 13 (.cvi .i64 (zt 12)),za 2 (zt 13)])
  .ret)
def rc119 : RC := (.seq (.run [za 2 (zi 0)])
  (.seq (.seq (.run [zr 3 (.mv (zt 0)),zr 4 (.bin .eql (zt 3) (.const (.int .u32 0)))])
  (.cond (zt 4)
  (.seq (.run [za 2 (zi 32)])
  .ret)
  .skip))
  rc119_0))
def ce119 : List (Nat × List Nat × List Nat) := []
def ro119 : List RO := [(.mv (zt 2))]
theorem ok119 : okFn Tryz.prog 119 14 ce119 = some (rc119,ro119) := by kernel_rfl
def rc120_0 : RC := (.seq (.run [zr 5 (.mv (zt 0)),zr 6 (.mv (zt 0)),zr 7 (.neg (zt 6)),zr 8 (.bin .and (zt 5) (zt 7)),zr 9 (.bin .mul (zt 8) (.const (.int .u64 285870213051353865))),zr 10 (.bin .shr (zt 9) (.const (.int .u64 58))),zr 11 (.iaa 64 1 (.global 3) (zt 10)),zr 12 (.ld (zt 11)),zr 13 (.cvi .i64 (zt 12)),za 2 (zt 13)])
  .ret)
def rc120 : RC := (.seq (.run [za 2 (zi 0)])
  (.seq (.seq (.run [zr 3 (.mv (zt 0)),zr 4 (.bin .eql (zt 3) (.const (.int .u64 0)))])
  (.cond (zt 4)
  (.seq (.run [za 2 (zi 64)])
  .ret)
  .skip))
  rc120_0))
def ce120 : List (Nat × List Nat × List Nat) := []
def ro120 : List RO := [(.mv (zt 2))]
theorem ok120 : okFn Tryz.prog 120 14 ce120 = some (rc120,ro120) := by kernel_rfl
def rc126_0 : RC := (.seq (.run [zr 55 (.mv (zt 0)),zr 56 (.nck (zt 55)),zr 57 (.fa 1 (zt 56)),zr 58 (.ld (zt 57)),zr 59 (.bin .add (zt 58) (zi 1)),zr 60 (.nck (zt 55)),zr 61 (.fa 1 (zt 60)),ze (.st 1 (zt 61) (zt 59))])
  (.seq (.run [zr 62 (.ldn 6 (zt 7)),ze (.st 6 (zt 4) (zt 62)),za 5 (.const .nilIface)])
  .ret))
def rc126_1 : RC := (.seq (.seq (.run [zr 51 (.mv (zt 8)),zr 52 (.eq true (.iface []) (zt 51) (.const .nilIface))])
  (.cond (zt 52)
  (.seq (.run [zr 53 (.bld [(.int .i64 0),(.int .u64 0),(.int .u64 0),(.int .u64 0),(.int .u64 0),(.slice none 0 0)] []),zr 54 (.mv (zt 8)),ze (.st 6 (zt 4) (zt 53)),za 5 (zt 54)])
  .ret)
  .skip))
  rc126_0)
def rc126_2 : RC := (.seq (.run [zr 28 (.mv (zt 0)),zr 29 (.nck (zt 28)),zr 30 (.fa 1 (zt 29)),zr 31 (.ld (zt 30)),zr 32 (.bin .add (zt 31) (zi 1)),zr 33 (.nck (zt 28)),zr 34 (.fa 1 (zt 33)),ze (.st 1 (zt 34) (zt 32))])
  (.seq (.run [zr 36 (.mv (zt 0)),zr 37 (.mv (zt 1)),zr 38 (.bin .add (zt 37) (zi 1)),zc 39 85 [(zt 36),(zt 38)],zr 35 (.mv (zt 39)),zr 40 (.ext 0 (zt 35)),zr 41 (.ext 1 (zt 35)),zf 7 (.al [(.int .i64 0),(.int .u64 0),(.int .u64 0),(.int .u64 0),(.int .u64 0),(.slice none 0 0)] 153),ze (.st 6 (zt 7) (zt 40)),za 8 (zt 41)])
  (.seq (.seq (.run [zr 42 (.mv (zt 8)),zr 43 (.eq false (.iface []) (zt 42) (.const .nilIface)),zr 44 (.mv (zt 43)),zg 45 44 true (.mv (zt 0)),⟨(some 46),(some (44,true)),(.c (.fn 103 [(zt 45),(.const (.int .u8 41))])),[]⟩,zg 47 44 true (.not (zt 46)),zr 48 (.pick (zt 44) (zt 47) (.const (.bool false)))])
  (.cond (zt 48)
  (.run [zr 49 (.mv (zt 0)),zc 50 87 [(zt 49)],za 8 (zt 50)])
  .skip))
  rc126_1)))
def rc126_3 : RC := (.cond (zt 81)
  (.seq (.run [zr 86 (.bld [(.int .i64 0),(.int .u64 0),(.int .u64 0),(.int .u64 0),(.int .u64 0),(.slice none 0 0)] []),zr 87 (.mv (zt 0)),zc 88 87 [(zt 87)],ze (.st 6 (zt 4) (zt 86)),za 5 (zt 88)])
  .ret)
  .skip)
def rc126_4 : RC := (.seq (.run [zr 98 (.bld [(.int .u64 0),(.int .u64 0),(.int .u64 0),(.int .u64 0)] []),zr 99 (.mv (zt 9)),zc 100 131 [(zt 98),(zt 99)],zr 101 (.bld [(.int .i64 0),(.int .u64 0),(.int .u64 0),(.int .u64 0),(.int .u64 0),(.slice none 0 0)] [(0,1,(zi 1)),(1,4,(zt 100))]),ze (.st 6 (zt 4) (zt 101)),za 5 (.const .nilIface)])
  .ret)
def rc126_5 : RC := (.seq (.run [zr 90 (.mv (zt 0)),zc 91 130 [(zt 90)],zr 89 (.mv (zt 91)),zr 92 (.ext 0 (zt 89)),zr 93 (.ext 1 (zt 89)),za 9 (zt 92),za 10 (zt 93)])
  (.seq (.seq (.run [zr 94 (.mv (zt 10)),zr 95 (.eq true (.iface []) (zt 94) (.const .nilIface))])
  (.cond (zt 95)
  (.seq (.run [zr 96 (.bld [(.int .i64 0),(.int .u64 0),(.int .u64 0),(.int .u64 0),(.int .u64 0),(.slice none 0 0)] []),zr 97 (.mv (zt 10)),ze (.st 6 (zt 4) (zt 96)),za 5 (zt 97)])
  .ret)
  .skip))
  rc126_4))
def rc126 : RC := (.seq (.run [zf 4 (.al [(.int .i64 0),(.int .u64 0),(.int .u64 0),(.int .u64 0),(.int .u64 0),(.slice none 0 0)] 153),za 5 (.const .nilIface)])
  (.seq (.seq (.run [zr 11 (.mv (zt 0)),zr 12 (.nck (zt 11)),zr 13 (.fa 0 (zt 12)),zr 14 (.ld (zt 13)),zr 15 (.mv (zt 0)),zr 16 (.nck (zt 15)),zr 17 (.fa 1 (zt 16)),zr 18 (.ld (zt 17)),zr 19 (.ixs (zt 14) (zt 18)),za 6 (zt 19)])
  (.seq (.run [zr 20 (.mv (zt 6))])
  (.block 0 (.seq (.run [zr 22 (.bin .eql (zt 20) (.const (.int .u8 40))),za 21 (zt 22)])
  (.cond (zt 21)
  (.seq (.seq (.run [zr 23 (.mv (zt 1)),zr 24 (.bin .eql (zt 23) (zi 6))])
  (.cond (zt 24)
  (.seq (.run [zr 25 (.bld [(.int .i64 0),(.int .u64 0),(.int .u64 0),(.int .u64 0),(.int .u64 0),(.slice none 0 0)] []),zr 26 (.mv (zt 0)),zc 27 87 [(zt 26)],ze (.st 6 (zt 4) (zt 25)),za 5 (zt 27)])
  .ret)
  .skip))
  rc126_2)
  (.seq (.run [zr 64 (.bin .eql (zt 20) (.const (.int .u8 91))),za 63 (zt 64)])
  (.cond (zt 63)
  (.seq (.run [zr 65 (.mv (zt 0)),zc 66 128 [(zt 65)],zr 67 (.ext 0 (zt 66)),zr 68 (.ext 1 (zt 66)),ze (.st 6 (zt 4) (zt 67)),za 5 (zt 68)])
  .ret)
  (.seq (.run [zr 70 (.bin .eql (zt 20) (.const (.int .u8 46))),za 69 (zt 70)])
  (.cond (zt 69)
  (.seq (.run [zr 71 (.mv (zt 0)),zr 72 (.nck (zt 71)),zr 73 (.fa 1 (zt 72)),zr 74 (.ld (zt 73)),zr 75 (.bin .add (zt 74) (zi 1)),zr 76 (.nck (zt 71)),zr 77 (.fa 1 (zt 76)),ze (.st 1 (zt 77) (zt 75))])
  (.seq (.run [zr 78 (.bld [(.int .u64 0),(.int .u64 0),(.int .u64 0),(.int .u64 0)] []),zc 79 129 [(zt 78)],zr 80 (.bld [(.int .i64 0),(.int .u64 0),(.int .u64 0),(.int .u64 0),(.int .u64 0),(.slice none 0 0)] [(0,1,(zi 1)),(1,4,(zt 79))]),ze (.st 6 (zt 4) (zt 80)),za 5 (.const .nilIface)])
  .ret))
  (.seq (.seq (.run [zr 82 (.bin .eql (zt 20) (.const (.int .u8 42))),za 81 (zt 82)])
  (.cond (zt 81)
  .skip
  (.seq (.run [zr 83 (.bin .eql (zt 20) (.const (.int .u8 43))),za 81 (zt 83)])
  (.cond (zt 81)
  .skip
  (.seq (.run [zr 84 (.bin .eql (zt 20) (.const (.int .u8 63))),za 81 (zt 84)])
  (.cond (zt 81)
  .skip
  (.run [zr 85 (.bin .eql (zt 20) (.const (.int .u8 93))),za 81 (zt 85)])))))))
  rc126_3))))))))))
  rc126_5))
def ce126 : List (Nat × List Nat × List Nat) := [(1,[0,1,2,3,4,5,6,7,8,9],[0,1,3,7,0,16,48,112,255,511])]
def ro126 : List RO := [(.ldn 6 (zt 4)),(.mv (zt 5))]
theorem ok126 : okFn Tryz.prog 126 102 ce126 = some (rc126,ro126) := by kernel_rfl
def rc128_0 : RC := (.seq (.block 3 (.run [zr 91 (.ldn 4 (zt 6)),zr 92 (.mv (zt 10)),zr 93 (.cvi .u8 (zt 92)),zc 94 131 [(zt 91),(zt 93)],ze (.st 4 (zt 6) (zt 94))]))
  (.run [zr 89 (.mv (zt 10)),zr 90 (.bin .add (zt 89) (zi 1)),za 10 (zt 90)]))
def rc128_1 : RC := (.seq (.seq (.run [zr 85 (.mv (zt 10)),zr 86 (.mv (zt 9)),zr 87 (.cvi .i64 (zt 86)),zr 88 (.bin .leq (zt 85) (zt 87))])
  (.cond (zt 88)
  .skip
  (.exit 2)))
  rc128_0)
def rc128_2 : RC := (.seq (.run [zr 83 (.mv (zt 7)),zr 84 (.cvi .i64 (zt 83)),za 10 (zt 84)])
  (.block 2 (.loop rc128_1)))
def rc128_3 : RC := (.seq (.run [zr 45 (.mv (zt 7)),za 9 (zt 45)])
  (.seq (.seq (.run [zr 46 (.mv (zt 0)),zc 47 103 [(zt 46),(.const (.int .u8 45))],zr 48 (.mv (zt 47)),zg 49 48 true (.mv (zt 0)),zg 50 48 true (.nck (zt 49)),zg 51 48 true (.fa 0 (zt 50)),zg 52 48 true (.ld (zt 51)),zg 53 48 true (.mv (zt 0)),zg 54 48 true (.nck (zt 53)),zg 55 48 true (.fa 1 (zt 54)),zg 56 48 true (.ld (zt 55)),zg 57 48 true (.sls (zt 52) (some (zt 56)) none),⟨(some 58),(some (48,true)),(.c (.fn 133 [(zt 57),(.const (.string ⟨#[45,93]⟩))])),[]⟩,zg 59 48 true (.not (zt 58)),zr 60 (.pick (zt 48) (zt 59) (.const (.bool false)))])
  (.cond (zt 60)
  (.seq (.run [zr 61 (.mv (zt 0)),zr 62 (.nck (zt 61)),zr 63 (.fa 1 (zt 62)),zr 64 (.ld (zt 63)),zr 65 (.bin .add (zt 64) (zi 1)),zr 66 (.nck (zt 61)),zr 67 (.fa 1 (zt 66)),ze (.st 1 (zt 67) (zt 65))])
  (.seq (.run [zr 69 (.mv (zt 0)),zc 70 130 [(zt 69)],zr 68 (.mv (zt 70)),zr 71 (.ext 0 (zt 68)),zr 72 (.ext 1 (zt 68)),za 9 (zt 71),za 8 (zt 72)])
  (.seq (.run [zr 73 (.mv (zt 8)),zr 74 (.eq true (.iface []) (zt 73) (.const .nilIface)),zr 75 (.mv (zt 74)),zg 76 75 false (.mv (zt 9)),zg 77 75 false (.mv (zt 7)),zg 78 75 false (.bin .lss (zt 76) (zt 77)),zr 79 (.pick (zt 75) (.const (.bool true)) (zt 78))])
  (.cond (zt 79)
  (.seq (.run [zr 80 (.bld [(.int .i64 0),(.int .u64 0),(.int .u64 0),(.int .u64 0),(.int .u64 0),(.slice none 0 0)] []),zr 81 (.mv (zt 4)),zc 82 84 [(zi 8),(zt 81)],ze (.st 6 (zt 2) (zt 80)),za 3 (zt 82)])
  .ret)
  .skip))))
  .skip))
  rc128_2))
def rc128_4 : RC := (.block 1 (.seq (.run [zr 36 (.mv (zt 0)),zc 37 130 [(zt 36)],zr 35 (.mv (zt 37)),zr 38 (.ext 0 (zt 35)),zr 39 (.ext 1 (zt 35)),za 7 (zt 38),za 8 (zt 39)])
  (.seq (.seq (.run [zr 40 (.mv (zt 8)),zr 41 (.eq true (.iface []) (zt 40) (.const .nilIface))])
  (.cond (zt 41)
  (.seq (.run [zr 42 (.bld [(.int .i64 0),(.int .u64 0),(.int .u64 0),(.int .u64 0),(.int .u64 0),(.slice none 0 0)] []),zr 43 (.mv (zt 4)),zc 44 84 [(zi 8),(zt 43)],ze (.st 6 (zt 2) (zt 42)),za 3 (zt 44)])
  .ret)
  .skip))
  rc128_3)))
def rc128_5 : RC := (.seq (.seq (.run [zr 32 (.mv (zt 0)),zc 33 103 [(zt 32),(.const (.int .u8 93))],zr 34 (.not (zt 33))])
  (.cond (zt 34)
  .skip
  (.exit 0)))
  rc128_4)
def rc128_6 : RC := (.seq (.run [zr 105 (.ldn 4 (zt 6)),zr 106 (.bld [(.int .i64 0),(.int .u64 0),(.int .u64 0),(.int .u64 0),(.int .u64 0),(.slice none 0 0)] [(0,1,(zi 1)),(1,4,(zt 105))]),ze (.st 6 (zt 2) (zt 106)),za 3 (.const .nilIface)])
  .ret)
def rc128_7 : RC := (.seq (.run [zr 95 (.mv (zt 0)),zr 96 (.nck (zt 95)),zr 97 (.fa 1 (zt 96)),zr 98 (.ld (zt 97)),zr 99 (.bin .add (zt 98) (zi 1)),zr 100 (.nck (zt 95)),zr 101 (.fa 1 (zt 100)),ze (.st 1 (zt 101) (zt 99))])
  (.seq (.seq (.run [zr 102 (.mv (zt 5))])
  (.cond (zt 102)
  (.run [zr 103 (.ldn 4 (zt 6)),zc 104 129 [(zt 103)],ze (.st 4 (zt 6) (zt 104))])
  .skip))
  rc128_6))
def rc128_8 : RC := (.seq (.run [zf 6 (.al [(.int .u64 0),(.int .u64 0),(.int .u64 0),(.int .u64 0)] 150)])
  (.seq (.block 0 (.loop rc128_5))
  rc128_7))
def rc128 : RC := (.seq (.run [zf 2 (.al [(.int .i64 0),(.int .u64 0),(.int .u64 0),(.int .u64 0),(.int .u64 0),(.slice none 0 0)] 153),za 3 (.const .nilIface)])
  (.seq (.run [zr 11 (.mv (zt 0)),zr 12 (.nck (zt 11)),zr 13 (.fa 1 (zt 12)),zr 14 (.ld (zt 13)),za 4 (zt 14)])
  (.seq (.run [zr 15 (.mv (zt 0)),zr 16 (.nck (zt 15)),zr 17 (.fa 1 (zt 16)),zr 18 (.ld (zt 17)),zr 19 (.bin .add (zt 18) (zi 1)),zr 20 (.nck (zt 15)),zr 21 (.fa 1 (zt 20)),ze (.st 1 (zt 21) (zt 19))])
  (.seq (.run [zr 22 (.mv (zt 0)),zc 23 103 [(zt 22),(.const (.int .u8 94))],za 5 (zt 23)])
  (.seq (.seq (.run [zr 24 (.mv (zt 5))])
  (.cond (zt 24)
  (.run [zr 25 (.mv (zt 0)),zr 26 (.nck (zt 25)),zr 27 (.fa 1 (zt 26)),zr 28 (.ld (zt 27)),zr 29 (.bin .add (zt 28) (zi 1)),zr 30 (.nck (zt 25)),zr 31 (.fa 1 (zt 30)),ze (.st 1 (zt 31) (zt 29))])
  .skip))
  rc128_8)))))
def ce128 : List (Nat × List Nat × List Nat) := [(12,[0,1,2,3,4,5,6,7,8,9,10,11,12,13,14],[0,1,3,7,15,31,63,7,135,391,903,2047,4095,8191,16383])]
def ro128 : List RO := [(.ldn 6 (zt 2)),(.mv (zt 3))]
theorem ok128 : okFn Tryz.prog 128 107 ce128 = some (rc128,ro128) := by kernel_rfl
def rc129_0 : RC := (.seq (.block 1 (.seq (.run [zr 6 (.mv (zt 4)),za 3 (zt 6)])
  (.run [zr 7 (.mv (zt 3)),zr 8 (.mv (zt 3)),zr 9 (.iaa 4 1 (zt 1) (zt 8)),zr 10 (.ld (zt 9)),zr 11 (.com (zt 10)),zr 12 (.iaa 4 1 (zt 1) (zt 7)),ze (.st 1 (zt 12) (zt 11))])))
  (.run [zr 13 (.bin .add (zt 4) (zi 1)),zr 4 (.mv (zt 13))]))
def rc129_1 : RC := (.seq (.run [zr 5 (.bin .lss (zt 4) (zi 4))])
  (.seq (.cond (zt 5)
  .skip
  (.exit 0))
  rc129_0))
def rc129_2 : RC := (.seq (.run [zr 14 (.ldn 4 (zt 1)),ze (.st 4 (zt 2) (zt 14))])
  .ret)
def rc129 : RC := (.seq (.run [zf 1 (.bx 150 (zt 0)),zf 2 (.al [(.int .u64 0),(.int .u64 0),(.int .u64 0),(.int .u64 0)] 150)])
  (.seq (.seq (.run [zr 4 (.mv (zi 0))])
  (.block 0 (.loop rc129_1)))
  rc129_2))
def ce129 : List (Nat × List Nat × List Nat) := []
def ro129 : List RO := [(.ldn 4 (zt 2))]
theorem ok129 : okFn Tryz.prog 129 15 ce129 = some (rc129,ro129) := by kernel_rfl
end Go.Proofs.YtccjlggpiliilaaGreatDoor.Ab

set_option maxHeartbeats 4000000
namespace Go.Proofs.YtccjlggpiliilaaGreatDoor.Ab
open Go Go.RowKit
def rc130_0 : RC := (.seq (.run [zr 34 (.mv (zt 0)),zr 35 (.nck (zt 34)),zr 36 (.fa 1 (zt 35)),zr 37 (.ld (zt 36)),zr 38 (.bin .add (zt 37) (zi 1)),zr 39 (.nck (zt 34)),zr 40 (.fa 1 (zt 39)),ze (.st 1 (zt 40) (zt 38))])
  (.run [zr 41 (.mv (zt 0)),zr 42 (.nck (zt 41)),zr 43 (.fa 0 (zt 42)),zr 44 (.ld (zt 43)),zr 45 (.mv (zt 0)),zr 46 (.nck (zt 45)),zr 47 (.fa 1 (zt 46)),zr 48 (.ld (zt 47)),zr 49 (.ixs (zt 44) (zt 48)),za 4 (zt 49)]))
def rc130_1 : RC := (.seq (.run [zr 50 (.mv (zt 0)),zr 51 (.nck (zt 50)),zr 52 (.fa 1 (zt 51)),zr 53 (.ld (zt 52)),zr 54 (.bin .add (zt 53) (zi 1)),zr 55 (.nck (zt 50)),zr 56 (.fa 1 (zt 55)),ze (.st 1 (zt 56) (zt 54))])
  (.seq (.run [zr 57 (.mv (zt 4)),za 2 (zt 57),za 3 (.const .nilIface)])
  .ret))
def rc130_2 : RC := (.seq (.run [zr 10 (.mv (zt 0)),zr 11 (.nck (zt 10)),zr 12 (.fa 0 (zt 11)),zr 13 (.ld (zt 12)),zr 14 (.mv (zt 0)),zr 15 (.nck (zt 14)),zr 16 (.fa 1 (zt 15)),zr 17 (.ld (zt 16)),zr 18 (.ixs (zt 13) (zt 17)),za 4 (zt 18)])
  (.seq (.seq (.run [zr 19 (.mv (zt 4)),zr 20 (.bin .eql (zt 19) (.const (.int .u8 92)))])
  (.cond (zt 20)
  (.seq (.seq (.run [zr 21 (.mv (zt 0)),zr 22 (.nck (zt 21)),zr 23 (.fa 1 (zt 22)),zr 24 (.ld (zt 23)),zr 25 (.bin .add (zt 24) (zi 1)),zr 26 (.mv (zt 0)),zr 27 (.nck (zt 26)),zr 28 (.fa 0 (zt 27)),zr 29 (.ld (zt 28)),zr 30 (.lens (zt 29)),zr 31 (.bin .eql (zt 25) (zt 30))])
  (.cond (zt 31)
  (.seq (.run [zr 32 (.mv (zt 0)),zc 33 87 [(zt 32)],za 2 (.const (.int .u8 0)),za 3 (zt 33)])
  .ret)
  .skip))
  rc130_0)
  .skip))
  rc130_1))
def rc130 : RC := (.seq (.run [za 2 (.const (.int .u8 0)),za 3 (.const .nilIface)])
  (.seq (.seq (.run [zr 5 (.mv (zt 0)),zc 6 86 [(zt 5)],zr 7 (.not (zt 6))])
  (.cond (zt 7)
  (.seq (.run [zr 8 (.mv (zt 0)),zc 9 87 [(zt 8)],za 2 (.const (.int .u8 0)),za 3 (zt 9)])
  .ret)
  .skip))
  rc130_2))
def ce130 : List (Nat × List Nat × List Nat) := [(3,[0,1,2,3,4,5,6,7,8,9],[0,1,3,7,0,16,48,112,255,511]),(5,[0,1,2,3,4,5,6,7,8,9,10],[0,1,3,7,15,0,32,96,224,480,1023]),(8,[0,1,2,3,4,5,6,7,8,9],[0,1,3,7,0,16,48,112,255,511])]
def ro130 : List RO := [(.mv (zt 2)),(.mv (zt 3))]
theorem ok130 : okFn Tryz.prog 130 58 ce130 = some (rc130,ro130) := by kernel_rfl
def rc131 : RC := (.seq (.run [zf 2 (.bx 150 (zt 0)),zf 4 (.al [(.int .u64 0),(.int .u64 0),(.int .u64 0),(.int .u64 0)] 150)])
  (.seq (.run [zr 5 (.mv (zt 1)),zr 6 (.bin .quo (zt 5) (.const (.int .u8 64))),zr 7 (.iaa 4 1 (zt 2) (zt 6)),zr 8 (.ld (zt 7)),zr 9 (.mv (zt 1)),zr 10 (.bin .rem (zt 9) (.const (.int .u8 64))),zr 11 (.bin .shl (.const (.int .u64 1)) (zt 10)),zr 12 (.bin .or (zt 8) (zt 11)),zr 13 (.iaa 4 1 (zt 2) (zt 6)),ze (.st 1 (zt 13) (zt 12))])
  (.seq (.run [zr 14 (.ldn 4 (zt 2)),ze (.st 4 (zt 4) (zt 14))])
  .ret)))
def ce131 : List (Nat × List Nat × List Nat) := []
def ro131 : List RO := [(.ldn 4 (zt 4))]
theorem ok131 : okFn Tryz.prog 131 15 ce131 = some (rc131,ro131) := by kernel_rfl
def rc133 : RC := (.seq (.run [za 4 (.const (.bool false))])
  (.seq (.run [zr 5 (.mv (zt 0)),zr 6 (.mv (zt 1)),zc 7 134 [(zt 5),(zt 6)],za 4 (zt 7)])
  .ret))
def ce133 : List (Nat × List Nat × List Nat) := []
def ro133 : List RO := [(.mv (zt 4))]
theorem ok133 : okFn Tryz.prog 133 8 ce133 = some (rc133,ro133) := by kernel_rfl
def rc134 : RC := (.seq (.run [za 4 (.const (.bool false))])
  (.seq (.run [zr 5 (.mv (zt 0)),zr 6 (.lens (zt 5)),zr 7 (.mv (zt 1)),zr 8 (.lens (zt 7)),zr 9 (.bin .geq (zt 6) (zt 8)),zr 10 (.mv (zt 9)),zg 11 10 true (.mv (zt 0)),zg 12 10 true (.mv (zt 1)),zg 13 10 true (.lens (zt 12)),zg 14 10 true (.sls (zt 11) none (some (zt 13))),zg 15 10 true (.mv (zt 1)),zg 16 10 true (.bin .eql (zt 14) (zt 15)),zr 17 (.pick (zt 10) (zt 16) (.const (.bool false))),za 4 (zt 17)])
  .ret))
def ce134 : List (Nat × List Nat × List Nat) := []
def ro134 : List RO := [(.mv (zt 4))]
theorem ok134 : okFn Tryz.prog 134 18 ce134 = some (rc134,ro134) := by kernel_rfl
def rc166_0 : RC := (.seq (.run [zr 20 (.mv (zt 0)),zc 21 170 [(zt 20)],za 2 (zt 21)])
  .ret)
def rc166_1 : RC := (.seq (.run [zr 8 (.mv (zt 0)),zr 9 (.nck (zt 8)),zr 10 (.fa 8 (zt 9)),zr 11 (.ld (zt 10)),zr 12 (.bin .sub (zt 11) (zi 1)),zr 13 (.nck (zt 8)),zr 14 (.fa 8 (zt 13)),ze (.st 1 (zt 14) (zt 12))])
  (.seq (.seq (.run [zr 15 (.mv (zt 0)),zr 16 (.nck (zt 15)),zr 17 (.fa 8 (zt 16)),zr 18 (.ld (zt 17)),zr 19 (.bin .gtr (zt 18) (zi 0))])
  (.cond (zt 19)
  (.seq (.run [za 2 (.const (.slice none 0 0))])
  .ret)
  .skip))
  rc166_0))
def rc166 : RC := (.seq (.run [za 2 (.const (.slice none 0 0))])
  (.seq (.seq (.run [zr 3 (.mv (zt 0)),zr 4 (.nck (zt 3)),zr 5 (.fa 5 (zt 4)),zr 6 (.ld (zt 5)),zr 7 (.bin .eql (zt 6) (zi 3))])
  (.cond (zt 7)
  (.seq (.run [za 2 (.const (.slice none 0 0))])
  .ret)
  .skip))
  rc166_1))
def ce166 : List (Nat × List Nat × List Nat) := []
def ro166 : List RO := [(.mv (zt 2))]
theorem ok166 : okFn Tryz.prog 166 22 ce166 = some (rc166,ro166) := by kernel_rfl
def rc167 : RC := (.seq (.run [za 2 (.const (.bool false)),za 3 (.const .nilIface)])
  (.seq (.run [zr 4 (.mv (zt 0)),zr 5 (.nck (zt 4)),zr 6 (.fa 5 (zt 5)),zr 7 (.ld (zt 6)),zr 8 (.bin .eql (zt 7) (zi 3)),zr 9 (.mv (zt 0)),zr 10 (.nck (zt 9)),zr 11 (.fa 10 (zt 10)),zr 12 (.ld (zt 11)),⟨(some 2),none,(.a (zt 8)),[(12,none,.ld (zt 11))]⟩,za 3 (zt 12)])
  .ret))
def ce167 : List (Nat × List Nat × List Nat) := [(1,[0,1,2,3,4,5,6,7,8,9,10],[0,1,3,7,15,0,32,96,224,31,1023])]
def ro167 : List RO := [(.mv (zt 2)),(.mv (zt 3))]
theorem ok167 : okFn Tryz.prog 167 13 ce167 = some (rc167,ro167) := by kernel_rfl
def rc168_0 : RC := (.seq (.run [za 4 (.const (.slice none 0 0))])
  .ret)
def rc168 : RC := (.seq (.run [za 4 (.const (.slice none 0 0))])
  (.seq (.run [zr 5 (.mv (zt 0)),zr 6 (.mv (zt 0)),zr 7 (.mv (zt 1)),zr 8 (.nck (zt 5)),zr 9 (.fa 5 (zt 8)),ze (.st 1 (zt 9) (zi 3)),zr 10 (.nck (zt 6)),zr 11 (.fa 10 (zt 10)),ze (.st 1 (zt 11) (zt 7))])
  (.seq (.seq (.run [zr 12 (.mv (zt 1)),zr 13 (.mki 44 (zi 10)),zr 14 (.ieq false [2,3,5,6,12,21,29,44,46,53,54,75,98,118,124,131,142,147,148,226,270,272,273,291] (zt 12) (zt 13))])
  (.cond (zt 14)
  (.seq (.run [zf 15 (.bsl 5 1 2 [(.int .u8 0),(.int .u8 0)] [(0,1,(.const (.int .u8 24))),(1,1,(.const (.int .u8 24)))]),za 4 (zt 15)])
  .ret)
  .skip))
  rc168_0)))
def ce168 : List (Nat × List Nat × List Nat) := []
def ro168 : List RO := [(.mv (zt 4))]
theorem ok168 : okFn Tryz.prog 168 16 ce168 = some (rc168,ro168) := by kernel_rfl
def rc170_0 : RC := (.seq (.run [zr 16 (.mv (zt 0)),zr 17 (.nck (zt 16)),zr 18 (.fa 7 (zt 17)),zr 19 (.ld (zt 18)),zr 20 (.bin .add (zt 19) (zi 1)),zr 21 (.nck (zt 16)),zr 22 (.fa 7 (zt 21)),ze (.st 1 (zt 22) (zt 20))])
  (.seq (.run [zr 23 (.mv (zt 0)),zr 24 (.mv (zt 0)),zr 25 (.nck (zt 24)),zr 26 (.fa 0 (zt 25)),zr 27 (.fa 1 (zt 26)),zr 28 (.ld (zt 27)),zr 29 (.nck (zt 23)),zr 30 (.fa 8 (zt 29)),ze (.st 1 (zt 30) (zt 28))])
  (.seq (.run [zr 31 (.mv (zt 0)),zc 32 171 [(zt 31)],za 2 (zt 32)])
  .ret)))
def rc170 : RC := (.seq (.run [za 2 (.const (.slice none 0 0))])
  (.seq (.seq (.run [zr 3 (.mv (zt 0)),zr 4 (.nck (zt 3)),zr 5 (.fa 7 (zt 4)),zr 6 (.ld (zt 5)),zr 7 (.mv (zt 0)),zr 8 (.nck (zt 7)),zr 9 (.fa 0 (zt 8)),zr 10 (.fa 0 (zt 9)),zr 11 (.ld (zt 10)),zr 12 (.bin .geq (zt 6) (zt 11))])
  (.cond (zt 12)
  (.seq (.run [zr 13 (.mv (zt 0)),zr 14 (.mki 44 (zi 10)),zc 15 168 [(zt 13),(zt 14)],za 2 (zt 15)])
  .ret)
  .skip))
  rc170_0))
def ce170 : List (Nat × List Nat × List Nat) := [(1,[0,1,2,3,4,5,6,7,8,9],[0,1,3,7,0,16,48,112,240,511])]
def ro170 : List RO := [(.mv (zt 2))]
theorem ok170 : okFn Tryz.prog 170 33 ce170 = some (rc170,ro170) := by kernel_rfl
def rc171_0 : RC := (.seq (.run [zr 34 (.mv (zt 3)),za 2 (zt 34)])
  .ret)
def rc171_1 : RC := (.seq (.run [za 2 (.const (.slice none 0 0))])
  .ret)
def rc171 : RC := (.seq (.run [za 2 (.const (.slice none 0 0))])
  (.seq (.seq (.run [zr 5 (.mv (zt 0)),zr 6 (.nck (zt 5)),zr 7 (.fa 5 (zt 6)),zr 8 (.ld (zt 7))])
  (.block 0 (.seq (.run [zr 10 (.bin .eql (zt 8) (zi 1)),za 9 (zt 10)])
  (.cond (zt 9)
  (.seq (.run [zr 12 (.mv (zt 0)),zr 13 (.nck (zt 12)),zr 14 (.fa 2 (zt 13)),zr 15 (.ld (zt 14)),zr 16 (.mv (zt 0)),zr 17 (.nck (zt 16)),zr 18 (.fa 6 (zt 17)),zr 19 (.ld (zt 18)),zr 20 (.ia 2 (zt 15) (zt 19)),zr 21 (.ldn 2 (zt 20)),zr 22 (.mv (zt 0)),zr 23 (.nck (zt 22)),zr 24 (.fa 4 (zt 23)),zr 25 (.ld (zt 24)),zc 26 172 [(zt 21),(zt 25)],zr 11 (.mv (zt 26)),zr 27 (.ext 0 (zt 11)),zr 28 (.ext 1 (zt 11)),za 3 (zt 27),za 4 (zt 28)])
  (.seq (.seq (.run [zr 29 (.mv (zt 4)),zr 30 (.not (zt 29))])
  (.cond (zt 30)
  (.seq (.run [zr 31 (.mv (zt 0)),zr 32 (.mki 44 (zi 14)),zc 33 168 [(zt 31),(zt 32)],za 2 (zt 33)])
  .ret)
  .skip))
  rc171_0))
  (.seq (.run [zr 36 (.bin .eql (zt 8) (zi 2)),za 35 (zt 36)])
  (.cond (zt 35)
  (.seq (.run [zf 37 (.bsl 5 1 1 [(.int .u8 0)] [(0,1,(.const (.int .u8 4)))]),za 2 (zt 37)])
  .ret)
  .skip))))))
  rc171_1))
def ce171 : List (Nat × List Nat × List Nat) := [(3,[0,1,2,3,4,5,6,7,8,9,10,11,12,13,14,15,16,17,18,19],[0,1,3,7,0,16,48,112,255,511,0,1024,3072,7168,16383,32767,65535,65535,131071,524287])]
def ro171 : List RO := [(.mv (zt 2))]
theorem ok171 : okFn Tryz.prog 171 38 ce171 = some (rc171,ro171) := by kernel_rfl
def rc172_0 : RC := (.seq (.run [zr 15 (.mv (zt 6)),zr 16 (.fa 0 (zt 2)),zr 17 (.ld (zt 16)),zr 18 (.fa 0 (zt 2)),zr 19 (.ld (zt 18)),zr 20 (.com (zt 19)),zf 21 (.bsl 5 1 3 [(.int .u8 0),(.int .u8 0),(.int .u8 0)] [(0,1,(zt 15)),(1,1,(zt 17)),(2,1,(zt 20))]),zr 22 (.fa 1 (zt 2)),zr 23 (.ld (zt 22)),zf 24 (.app 5 1 1 (zt 21) (zt 23)),za 7 (zt 24)])
  (.seq (.run [zr 25 (.mv (zt 7)),zr 26 (.fa 1 (zt 2)),zr 27 (.ld (zt 26)),zr 28 (.mv (zt 1)),zc 29 173 [(zt 27),(zt 28)],zf 30 (.app 5 1 1 (zt 25) (zt 29)),za 4 (zt 30),za 5 (.const (.bool true))])
  .ret))
def rc172 : RC := (.seq (.run [zf 2 (.bx 221 (zt 0)),za 4 (.const (.slice none 0 0)),za 5 (.const (.bool false))])
  (.seq (.run [za 6 (.const (.int .u8 1))])
  (.seq (.seq (.run [zr 8 (.fa 1 (zt 2)),zr 9 (.ld (zt 8)),zr 10 (.lenl (zt 9))])
  (.block 0 (.seq (.run [zr 12 (.bin .eql (zt 10) (zi 128)),za 11 (zt 12)])
  (.cond (zt 11)
  .skip
  (.seq (.run [zr 14 (.bin .eql (zt 10) (zi 1024)),za 13 (zt 14)])
  (.cond (zt 13)
  (.run [za 6 (.const (.int .u8 2))])
  (.seq (.run [za 4 (.const (.slice none 0 0)),za 5 (.const (.bool false))])
  .ret)))))))
  rc172_0)))
def ce172 : List (Nat × List Nat × List Nat) := []
def ro172 : List RO := [(.mv (zt 4)),(.mv (zt 5))]
theorem ok172 : okFn Tryz.prog 172 31 ce172 = some (rc172,ro172) := by kernel_rfl
def rc173_0 : RC := (.seq (.run [zr 11 (.mv (zt 0)),zc 12 175 [(zt 11)],za 5 (zt 12)])
  (.seq (.run [zr 13 (.mv (zt 5)),zr 14 (.bin .shr (zt 13) (.const (.int .u64 8))),zr 15 (.cvi .u8 (zt 14)),zr 16 (.mv (zt 5)),zr 17 (.cvi .u8 (zt 16)),zf 18 (.bsl 5 1 2 [(.int .u8 0),(.int .u8 0)] [(0,1,(zt 15)),(1,1,(zt 17))]),za 4 (zt 18)])
  .ret))
def rc173 : RC := (.seq (.run [za 4 (.const (.slice none 0 0))])
  (.seq (.seq (.run [zr 6 (.mv (zt 1)),zr 7 (.not (zt 6))])
  (.cond (zt 7)
  (.seq (.run [zr 8 (.mv (zt 0)),zc 9 174 [(zt 8)],zf 10 (.bsl 5 1 1 [(.int .u8 0)] [(0,1,(zt 9))]),za 4 (zt 10)])
  .ret)
  .skip))
  rc173_0))
def ce173 : List (Nat × List Nat × List Nat) := []
def ro173 : List RO := [(.mv (zt 4))]
theorem ok173 : okFn Tryz.prog 173 19 ce173 = some (rc173,ro173) := by kernel_rfl
def rc174_0 : RC := (.seq (.block 1 (.seq (.run [zr 10 (.ia 1 (zt 6) (zt 8)),zr 11 (.ld (zt 10)),za 5 (zt 11)])
  (.run [zr 12 (.mv (zt 3)),zr 13 (.mv (zt 5)),zr 14 (.bin .add (zt 12) (zt 13)),za 3 (zt 14)])))
  (.run [zr 15 (.bin .add (zt 8) (zi 1)),zr 8 (.mv (zt 15))]))
def rc174_1 : RC := (.seq (.run [zr 9 (.bin .lss (zt 8) (zt 7))])
  (.seq (.cond (zt 9)
  .skip
  (.exit 0))
  rc174_0))
def rc174_2 : RC := (.seq (.run [zr 16 (.mv (zt 3)),za 2 (zt 16)])
  .ret)
def rc174 : RC := (.seq (.run [za 2 (.const (.int .u8 0))])
  (.seq (.run [za 3 (.const (.int .u8 0))])
  (.seq (.seq (.run [zr 6 (.mv (zt 0)),zr 7 (.lenl (zt 6)),zr 8 (.mv (zi 0))])
  (.block 0 (.loop rc174_1)))
  rc174_2)))
def ce174 : List (Nat × List Nat × List Nat) := []
def ro174 : List RO := [(.mv (zt 2))]
theorem ok174 : okFn Tryz.prog 174 17 ce174 = some (rc174,ro174) := by kernel_rfl
def rc175_0 : RC := (.seq (.block 1 (.seq (.run [zr 10 (.ia 1 (zt 6) (zt 8)),zr 11 (.ld (zt 10)),za 5 (zt 11)])
  (.run [zr 12 (.mv (zt 3)),zr 13 (.mv (zt 5)),zr 14 (.cvi .u16 (zt 13)),zr 15 (.bin .shl (zt 14) (.const (.int .u64 8))),zr 16 (.bin .xor (zt 12) (zt 15)),zc 17 176 [(zt 16)],za 3 (zt 17)])))
  (.run [zr 18 (.bin .add (zt 8) (zi 1)),zr 8 (.mv (zt 18))]))
def rc175_1 : RC := (.seq (.run [zr 9 (.bin .lss (zt 8) (zt 7))])
  (.seq (.cond (zt 9)
  .skip
  (.exit 0))
  rc175_0))
def rc175_2 : RC := (.seq (.run [zr 19 (.mv (zt 3)),za 2 (zt 19)])
  .ret)
def rc175 : RC := (.seq (.run [za 2 (.const (.int .u16 0))])
  (.seq (.run [za 3 (.const (.int .u16 0))])
  (.seq (.seq (.run [zr 6 (.mv (zt 0)),zr 7 (.lenl (zt 6)),zr 8 (.mv (zi 0))])
  (.block 0 (.loop rc175_1)))
  rc175_2)))
def ce175 : List (Nat × List Nat × List Nat) := []
def ro175 : List RO := [(.mv (zt 2))]
theorem ok175 : okFn Tryz.prog 175 20 ce175 = some (rc175,ro175) := by kernel_rfl
def rc176_0 : RC := (.seq (.block 1 (.seq (.run [zr 6 (.mv (zt 0)),zr 7 (.bin .and (zt 6) (.const (.int .u16 32768))),zr 8 (.bin .neq (zt 7) (.const (.int .u16 0))),za 3 (zt 8)])
  (.seq (.run [zr 9 (.mv (zt 0)),zr 10 (.bin .shl (zt 9) (.const (.int .u64 1))),za 0 (zt 10)])
  (.seq (.run [zr 11 (.mv (zt 3))])
  (.cond (zt 11)
  (.run [zr 12 (.mv (zt 0)),zr 13 (.bin .xor (zt 12) (.const (.int .u16 4129))),za 0 (zt 13)])
  .skip)))))
  (.run [zr 14 (.bin .add (zt 4) (zi 1)),zr 4 (.mv (zt 14))]))
def rc176_1 : RC := (.seq (.run [zr 5 (.bin .lss (zt 4) (zi 8))])
  (.seq (.cond (zt 5)
  .skip
  (.exit 0))
  rc176_0))
def rc176_2 : RC := (.seq (.run [zr 15 (.mv (zt 0)),za 2 (zt 15)])
  .ret)
def rc176 : RC := (.seq (.run [za 2 (.const (.int .u16 0))])
  (.seq (.seq (.run [zr 4 (.mv (zi 0))])
  (.block 0 (.loop rc176_1)))
  rc176_2))
def ce176 : List (Nat × List Nat × List Nat) := []
def ro176 : List RO := [(.mv (zt 2))]
theorem ok176 : okFn Tryz.prog 176 16 ce176 = some (rc176,ro176) := by kernel_rfl
end Go.Proofs.YtccjlggpiliilaaGreatDoor.Ab

set_option linter.unusedVariables false
set_option linter.unusedSimpArgs false
namespace Go.Proofs.YtccjlggpiliilaaGreatDoor.Ab
open Go Go.RowKit
set_option maxHeartbeats 4000000
set_option maxRecDepth 100000
def Keeps (X : Nat → Prop) (m m' : Mem) : Prop := m.next ≤ m'.next ∧ ∀ i,i < m.next → X i → m'.get i = m.get i
theorem Keeps.refl (X : Nat → Prop) (m : Mem) : Keeps X m m := ⟨Nat.le_refl _,fun _ _ _ => rfl⟩
theorem Keeps.trans {X : Nat → Prop} {a b c : Mem} (h : Keeps X a b) (k : Keeps X b c) : Keeps X a c :=
  ⟨Nat.le_trans h.1 k.1,fun i hi hn => by rw [k.2 i (Nat.lt_of_lt_of_le hi h.1) hn,h.2 i hi hn]⟩
theorem Keeps.mono {X Y : Nat → Prop} {a b : Mem} (h : Keeps X a b) (hy : ∀ i,i < a.next → Y i → X i) : Keeps Y a b := ⟨h.1,fun i hi hn => h.2 i hi (hy i hi hn)⟩
theorem Old.keeps {X : Nat → Prop} {a b : Mem} (h : Old a b) : Keeps X a b := ⟨h.1,fun i hi _ => h.2 i hi⟩
theorem Keeps.set {X : Nat → Prop} {a b : Mem} (h : Keeps X a b) {i : Nat} (hi : i < a.next → ¬ X i) (e : Ent) : Keeps X a (b.set i e) := ⟨h.1,fun k hk hx => by rw [Mem.set_other _ _ (fun e => hi (by omega) (by rw [← e]; exact hx)),h.2 k hk hx]⟩
theorem Keeps.push {X : Nat → Prop} {a b : Mem} (h : Keeps X a b) (e : Ent) : Keeps X a (b.push e) := ⟨Nat.le_trans h.1 (by simp),fun k hk hx => by rw [Mem.push_old _ _ (Nat.lt_of_lt_of_le hk h.1),h.2 k hk hx]⟩
theorem Keeps.kill {X : Nat → Prop} {a b : Mem} (h : Keeps X a b) {ob : Option Nat} (hi : ∀ i,ob = some i → i < a.next → ¬ X i) : Keeps X a (b.kill ob) := ⟨h.1,fun k hk hx => by rw [Mem.kill_other _ (fun e => hi k e hk hx),h.2 k hk hx]⟩
structure RdV (X : Nat → Prop) (m : Mem) (sz : Nat) (v : Value) (cs : List Value) (n : Nat) : Prop where
  sl : SlR m sz v cs n
  bl : ∀ b,blk v = some b → b < m.next ∧ X b
theorem RdV.keep {X : Nat → Prop} {m m' : Mem} {sz n : Nat} {v : Value} {cs : List Value} (h : RdV X m sz v cs n) (k : Keeps X m m') : RdV X m' sz v cs n :=
  ⟨h.sl.keep fun b hb => k.2 b (h.bl b hb).1 (h.bl b hb).2,fun b hb => ⟨Nat.lt_of_lt_of_le (h.bl b hb).1 k.1,(h.bl b hb).2⟩⟩
theorem RdV.mono {X Y : Nat → Prop} {m : Mem} {sz n : Nat} {v : Value} {cs : List Value} (h : RdV X m sz v cs n) (hy : ∀ i,i < m.next → X i → Y i) : RdV Y m sz v cs n :=
  ⟨h.sl,fun b hb => ⟨(h.bl b hb).1,hy b (h.bl b hb).1 (h.bl b hb).2⟩⟩
theorem SK_stK {P : Program} {w0 : World} {ts : Fr} {m : Mem} {R : Value → Mem → Prop} {n i o : Nat} {p x : Operand} {cs cs' vs : List Value} {e : TypeId} (hp : ev ts p = .pointer (some ⟨i,o,none⟩)) (hm : m.get i = .own cs e) (hv : cellsV (ev ts x) = vs) (h1 : o + n ≤ cs.length) (h2 : vs.length = n) (h3 : vs.all oneC = true)
    (hM : putAt cs o vs = cs') (hR : R undef (m.set i (.own cs' e))) : SK P w0 (.e (.st n p x)) ts m R := by
  subst hv
  subst hM
  exact SK_st hp hm h1 h2 h3 hR
end Go.Proofs.YtccjlggpiliilaaGreatDoor.Ab

set_option maxRecDepth 20000
namespace Go.Proofs.YtccjlggpiliilaaGreatDoor.Ab
open Go Go.RowKit
noncomputable def tab : List TE := [⟨45,55,rc45,ro45⟩,⟨64,33,rc64,ro64⟩,⟨65,92,rc65,ro65⟩,⟨66,7,rc66,ro66⟩,⟨84,9,rc84,ro84⟩,⟨85,43,rc85,ro85⟩,⟨86,13,rc86,ro86⟩,⟨87,8,rc87,ro87⟩,⟨88,132,rc88,ro88⟩,⟨102,40,rc102,ro102⟩,⟨103,20,rc103,ro103⟩,⟨104,27,rc104,ro104⟩,⟨105,26,rc105,ro105⟩,⟨106,7,rc106,ro106⟩,⟨110,8,rc110,ro110⟩,⟨111,8,rc111,ro111⟩,⟨118,60,rc118,ro118⟩,⟨119,14,rc119,ro119⟩,⟨120,14,rc120,ro120⟩,⟨126,102,rc126,ro126⟩,⟨128,107,rc128,ro128⟩,⟨129,15,rc129,ro129⟩,⟨130,58,rc130,ro130⟩,⟨131,15,rc131,ro131⟩,⟨133,8,rc133,ro133⟩,⟨134,18,rc134,ro134⟩]
theorem tab_ok : TOk Tryz.prog tab := by
  intro t ht
  simp only [tab,List.mem_cons,List.mem_nil_iff,or_false] at ht
  rcases ht with rfl | rfl | rfl | rfl | rfl | rfl | rfl | rfl | rfl | rfl | rfl | rfl | rfl | rfl | rfl | rfl | rfl | rfl | rfl | rfl | rfl | rfl | rfl | rfl | rfl | rfl
  · exact ⟨_,ok45⟩
  · exact ⟨_,ok64⟩
  · exact ⟨_,ok65⟩
  · exact ⟨_,ok66⟩
  · exact ⟨_,ok84⟩
  · exact ⟨_,ok85⟩
  · exact ⟨_,ok86⟩
  · exact ⟨_,ok87⟩
  · exact ⟨_,ok88⟩
  · exact ⟨_,ok102⟩
  · exact ⟨_,ok103⟩
  · exact ⟨_,ok104⟩
  · exact ⟨_,ok105⟩
  · exact ⟨_,ok106⟩
  · exact ⟨_,ok110⟩
  · exact ⟨_,ok111⟩
  · exact ⟨_,ok118⟩
  · exact ⟨_,ok119⟩
  · exact ⟨_,ok120⟩
  · exact ⟨_,ok126⟩
  · exact ⟨_,ok128⟩
  · exact ⟨_,ok129⟩
  · exact ⟨_,ok130⟩
  · exact ⟨_,ok131⟩
  · exact ⟨_,ok133⟩
  · exact ⟨_,ok134⟩
theorem fnd125 : Extern.findNext Tryz.f125 = none := by kernel_rfl
theorem xis125 : xIs Tryz.prog 125 .same := ⟨Tryz.f125,_,Tryz.func125,by kernel_rfl,by kernel_rfl,fnd125,(by kernel_rfl : Extern.find Tryz.f125 = some Extern.AbiNoEscape.same),rfl⟩
theorem fnd132 : Extern.findNext Tryz.f132 = none := by kernel_rfl
theorem xis132 : xIs Tryz.prog 132 (.mnz 5) := ⟨Tryz.f132,_,Tryz.func132,by kernel_rfl,by kernel_rfl,fnd132,(by kernel_rfl : Extern.find Tryz.f132 = some (Extern.BytealgMakeNoZero.makeNoZero #[3] #[28])),_,_,rfl,by kernel_rfl⟩
theorem fnd124 : Extern.findNext Tryz.f124 = none := by kernel_rfl
theorem xis124 : xIs Tryz.prog 124 .idx := ⟨Tryz.f124,_,Tryz.func124,by kernel_rfl,by kernel_rfl,fnd124,(by kernel_rfl : Extern.find Tryz.f124 = some Extern.BytealgIndexByte.indexByte),rfl⟩
def xs : List (FuncId × XK) := [(125,.same),(132,.mnz 5),(124,.idx)]
theorem xs_all : ∀ x ∈ xs,xIs Tryz.prog x.1 x.2 := by
  intro x hx
  simp only [xs,List.mem_cons,List.mem_nil_iff,or_false] at hx
  rcases hx with rfl | rfl | rfl
  · exact xis125
  · exact xis132
  · exact xis124
theorem xs_ok : XOk Tryz.prog (xCall xs) := xCall_ok xs_all
end Go.Proofs.YtccjlggpiliilaaGreatDoor.Ab

set_option linter.unusedVariables false
set_option linter.unusedSimpArgs false
set_option maxHeartbeats 4000000
set_option maxRecDepth 100000
namespace Go.Proofs.YtccjlggpiliilaaGreatDoor.Ab
open Go Go.RowKit
def z32 : List Int := [0,1,28,2,29,14,24,3,30,22,20,15,25,17,4,8,31,27,13,23,21,19,16,7,26,12,18,6,11,5,10,9]
def z64 : List Int := [0,1,56,2,57,49,28,3,61,58,42,50,38,29,17,4,62,47,59,36,45,43,51,22,53,39,33,30,24,18,12,5,63,55,48,27,60,41,37,16,46,35,44,21,52,32,23,11,54,26,40,15,34,20,31,10,25,14,19,9,13,8,7,6]
def z10 : List Int := [1,10,100,1000,10000,100000,1000000,10000000,100000000,1000000000,10000000000,100000000000,1000000000000,10000000000000,100000000000000,1000000000000000,10000000000000000,100000000000000000,1000000000000000000,10000000000000000000]
def e32 : List Value := z32.map fun z => .int .u8 z
def e64 : List Value := z64.map fun z => .int .u8 z
def e10 : List Value := z10.map fun z => .int .u64 z
def gs0 : List (Nat × List Value) := [(2,e32),(3,e64),(1,e10)]
def L0 : LM := ⟨5,(.n (.n (.n (.n (.n .dead (.ro e10) (.ro e32) (.ro e64) .dead .dead .dead .dead) .e .e .e .e .e .e .e) .e .e .e .e .e .e .e) .e .e .e .e .e .e .e) .e .e .e .e .e .e .e)⟩
theorem globals_size : Tryz.prog.globals.size = L0.n := by kernel_rfl
theorem L0_get (i : Nat) : L0.get i = entOf gs0 i := by
  by_cases h : i < 5
  · have : i = 0 ∨ i = 1 ∨ i = 2 ∨ i = 3 ∨ i = 4 := by omega
    rcases this with rfl | rfl | rfl | rfl | rfl <;> rfl
  · rw [LM.get_ge h]
    have n2 : (i == 2) = false := by simp; omega
    have n3 : (i == 3) = false := by simp; omega
    have n1 : (i == 1) = false := by simp; omega
    simp [entOf,gs0,List.lookup_cons,n2,n3,n1]
theorem laid_ok : laidB Tryz.prog gs0 = true := by kernel_rfl
theorem L0_part : partB L0 = true := by kernel_rfl
theorem laidIn {W : World} {l : List (String × DataW Unit)} (h : laidMet Tryz.prog l W) (h1 : ("math/bits.deBruijn32tab", Lib.tabData .u8 z32) ∈ l) (h2 : ("math/bits.deBruijn64tab", Lib.tabData .u8 z64) ∈ l) (h3 : ("internal/strconv.uint64pow10", Lib.tabData .u64 z10) ∈ l) : LaidIn Tryz.prog W gs0 where
  cell := by
    intro x hx
    simp only [gs0,List.mem_cons,List.mem_nil_iff,or_false] at hx
    rcases hx with rfl | rfl | rfl
    · exact laid_tab h h1 (by kernel_rfl) (by kernel_rfl) Tryz.underlying256 Tryz.underlying5 (by kernel_rfl) (by kernel_rfl)
    · exact laid_tab h h2 (by kernel_rfl) (by kernel_rfl) Tryz.underlying257 Tryz.underlying5 (by kernel_rfl) (by kernel_rfl)
    · exact laid_tab h h3 (by kernel_rfl) (by kernel_rfl) Tryz.underlying246 Tryz.underlying148 (by kernel_rfl) (by kernel_rfl)
end Go.Proofs.YtccjlggpiliilaaGreatDoor.Ab

set_option linter.unusedVariables false
set_option linter.unusedSimpArgs false
namespace Go.Proofs.YtccjlggpiliilaaGreatDoor.Ab
open Go Go.RowKit
set_option maxHeartbeats 4000000
set_option maxRecDepth 100000
theorem closed {w0 : World} {m : Mem} {f : FuncId} {args : List Value} {v : Value} {Q : Value → Mem → Prop} {n : Nat} (hp : Part L0 m) (ha : args.all (plainV 6) = true) (h : outIs v (callE tab (xCall xs) Tryz.prog n f args L0) = true) (hv : plainV 6 v = true) (hq : Q v m) : AbC Tryz.prog w0 f args m Q :=
  AbC_run n tab_ok xs_ok hp (Nat.le_of_eq globals_size) ha h hv hq
def digC (d : Nat) : UInt8 := if d < 10 then UInt8.ofNat (48 + d) else UInt8.ofNat (87 + d)
def digs (b n : Nat) : List UInt8 := if h : n < b ∨ b < 2 then [digC n] else digs b (n / b) ++ [digC (n % b)]
termination_by n
decreasing_by exact Nat.div_lt_self (by omega) (by omega)
theorem digs_lt {b n : Nat} (h : n < b) : digs b n = [digC n] := by rw [digs,dif_pos (.inl h)]
theorem digs_ge {b n : Nat} (hb : 2 ≤ b) (h : b ≤ n) : digs b n = digs b (n / b) ++ [digC (n % b)] := by rw [digs,dif_neg (by omega)]
theorem digs_pos (b n : Nat) : 1 ≤ (digs b n).length := by
  rw [digs]; split <;> simp
theorem digs_len {b : Nat} (hb : 2 ≤ b) : ∀ (L n : Nat),n < b ^ L → (digs b n).length ≤ max L 1
  | 0,n,h => by
    have : n < b := by simp at h; omega
    rw [digs_lt this]; simp
  | L + 1,n,h => by
    by_cases hn : n < b
    · rw [digs_lt hn]; simp
    · rw [digs_ge hb (by omega)]
      have h1 : n / b < b ^ L := by
        rw [Nat.div_lt_iff_lt_mul (by omega)]
        rw [Nat.pow_succ] at h; exact h
      have := digs_len hb L (n / b) h1
      simp only [List.length_append,List.length_cons,List.length_nil]
      by_cases hL : L = 0
      · subst hL
        exfalso
        simp at h; omega
      · omega
theorem digs_64 {b n : Nat} (hb : 8 ≤ b) (h : n < 18446744073709551616) : (digs b n).length ≤ 22 := by
  have h1 : (8 : Nat) ^ 22 ≤ b ^ 22 := Nat.pow_le_pow_left hb 22
  have h2 : (8 : Nat) ^ 22 = 73786976294838206464 := by decide
  have := digs_len (show 2 ≤ b by omega) 22 n (by omega)
  simpa using this
def digitsS : ByteArray := ⟨#[48,49,50,51,52,53,54,55,56,57,97,98,99,100,101,102,103,104,105,106,107,108,109,110,111,112,113,114,115,116,117,118,119,120,121,122]⟩
theorem digitsS_at : ∀ d : Fin 36,digitsS[d.val]? = some (digC d.val) := by decide +kernel
theorem dAnd {u k : Nat} (hu : u < 18446744073709551616) (hk : k ≤ 63) {z : Int} (hz : z = ((2 ^ k - 1 : Nat) : Int)) : dBin .and (.int .u64 (u : Int)) (.int .u64 z) = some (.int .u64 ((u % 2 ^ k : Nat) : Int)) := by
  subst hz
  have h2 : (2 : Nat) ^ k ≤ 2 ^ 63 := Nat.pow_le_pow_right (by omega) hk
  have hp : 0 < (2 : Nat) ^ k := Nat.pow_pos (by omega)
  have h1 := binI_eq (op := .and) (k := .u64) (a := Int.ofNat u) (b := Int.ofNat (2 ^ k - 1)) (v := .int .u64 (IntKind.u64.wrap (Int.ofNat (Nat.land u (2 ^ k - 1))))) (by
    simp only [binI,bitI]
    rw [blt_true.2 (show u < kTop .u64 by simpa [kTop] using hu),blt_true.2 (show 2 ^ k - 1 < kTop .u64 by simp only [kTop]; omega)]
    simp only [wrapF_eq])
  have h3 : Nat.land u (2 ^ k - 1) = u % 2 ^ k := Nat.and_two_pow_sub_one_eq_mod u k
  have h4 : u % 2 ^ k < 2 ^ k := Nat.mod_lt _ hp
  have h5 : IntKind.u64.wrap (Int.ofNat (u % 2 ^ k)) = ((u % 2 ^ k : Nat) : Int) := by rw [IntWalk.u64_in]; rfl; simp only [Int.ofNat_eq_natCast]; omega
  rw [h3,h5] at h1
  exact h1
theorem dShr {u k : Nat} (hk : k ≤ 63) {z : Int} (hz : z = (k : Int)) : dBin .shr (.int .u64 (u : Int)) (.int .u64 z) = some (.int .u64 ((u / 2 ^ k : Nat) : Int)) := by
  subst hz
  have h1 := shI_eq (op := .shr) (k := .u64) (k' := .u64) (a := Int.ofNat u) (b := Int.ofNat k) (v := .int .u64 (Int.ofNat (Nat.shiftRight u k))) (by
    simp only [shI]
    rw [Nat.ble_eq_true_of_le (show k ≤ kBits .u64 by simp only [kBits]; omega)])
  have h2 : Nat.shiftRight u k = u / 2 ^ k := Nat.shiftRight_eq_div_pow u k
  rw [h2] at h1
  exact h1
theorem putAt_ahead {cs : List Value} {t : List UInt8} {c : UInt8} (hl : cs.length = 65) (ht : t.length < 65) (hd : cs.drop (65 - t.length) = t.map byteV) :
    (putAt cs (65 - t.length - 1) [.int .u8 c.toNat]).length = 65 ∧ (putAt cs (65 - t.length - 1) [.int .u8 c.toNat]).drop (65 - (c :: t).length) = (c :: t).map byteV := by
  have e1 : 65 - (c :: t).length = 65 - t.length - 1 := by simp; omega
  have e2 : 65 - t.length - 1 + 1 = 65 - t.length := by omega
  have h9 : (cs.drop (65 - t.length)).length = t.length := by rw [hd]; simp
  refine ⟨by simp only [putAt,List.length_append,List.length_take,List.length_cons,List.length_nil,Nat.zero_add,e2,h9,hl]; omega,?_⟩
  rw [e1]
  simp only [putAt,List.length_cons,List.length_nil,Nat.zero_add,e2,hd]
  rw [List.append_assoc,List.drop_append,List.length_take]
  rw [show min (65 - t.length - 1) cs.length = 65 - t.length - 1 from by omega,Nat.sub_self]
  rw [List.drop_eq_nil_of_le (by rw [List.length_take]; omega)]
  simp [byteV]
theorem bytesOf_mapN : ∀ (l : List UInt8),bytesOf (l.map byteV) = some l
  | [] => rfl
  | b :: l => by
    show (bytesOf (l.map byteV)).map (UInt8.ofNat ((b.toNat : Int).toNat) :: ·) = _
    rw [bytesOf_mapN l]
    simp
theorem bstr_tail {m : Mem} {i J : Nat} {e : TypeId} {cs : List Value} {t : List UInt8} (hg : m.get i = .own cs e) (hl : cs.length = 65) (hJ : 65 - t.length = J) (ht : t.length ≤ 65) (hd : cs.drop (65 - t.length) = t.map byteV) :
    bstr m (.slice (some ⟨i,J,none⟩) (65 - J) 1) = some (.string ⟨⟨t⟩⟩) := by
  rw [hJ] at hd
  have h1 : (cs.drop J).take (65 - J) = t.map byteV := by rw [hd]; exact List.take_of_length_le (by simp; omega)
  simp only [bstr,Mem.row_own hg]
  rw [if_pos (by omega),h1]
  simp only [bytesOf_mapN]
def sgn (neg : Bool) : List UInt8 := if neg then [45] else []
theorem c_fmtTail {w0 : World} {m m1 : Mem} {ts : Fr} {B k a i : Nat} {neg : Bool} {Q : Value → Mem → Prop} {zs : List Value} (hp : Part L0 m1) (ho : Old m m1) (hi : m.next ≤ i) (hi2 : i < m1.next) (hz : m1.get i = .own zs 247) (hzl : zs.length = 65)
    (hB : B = 2 ^ k) (hk : 3 ≤ k ∧ k ≤ 5) (hB2 : 8 ≤ B) (hB3 : B ≤ 32) (ha : a < 18446744073709551616)
    (t1 : ts 1 = .int .u64 (a : Int)) (t2 : ts 2 = .int .i64 (B : Int)) (t3 : ts 3 = .bool neg) (t4 : ts 4 = .bool false) (t10 : ts 10 = .slice none 0 0) (t12 : ts 12 = .pointer (some ⟨i,0,none⟩)) (t13 : ts 13 = .int .i64 65)
    (h1 : outIs (.bool true) (callE tab (xCall xs) Tryz.prog 50 110 [.int .i64 (B : Int)] L0) = true)
    (h2 : outIs (.int .i64 (k : Int)) (callE tab (xCall xs) Tryz.prog 50 111 [.int .u64 (B : Int)] L0) = true)
    (hq : ∀ m',Old m m' → Q (.tuple ⟨[.slice none 0 0,.string ⟨⟨sgn neg ++ digs B a⟩⟩]⟩) m') :
    AbW Tryz.prog w0 rc92_9 (bodyA ro92 Q) ts m1 := by
  have wB : IntKind.u64.wrap (B : Int) = B := IntWalk.u64_in _ (by omega)
  have wk : IntKind.u64.wrap (k : Int) = k := IntWalk.u64_in _ (by omega)
  have wB1 : IntKind.u64.wrap ((B : Int) - 1) = (B : Int) - 1 := IntWalk.u64_in _ (by omega)
  simp -implicitDefEqProofs (disch := first | assumption | (simp only [wnA]; done) | (simp only [wnA]; omega) | omega) [rc92_9,ro92,wkA,rtZ,sbZ,dC,ev,fiZ,pkZ,putAt,bnd,slD,gZ0,gZ1,dR.eq_20,Mem.cell,Mem.row,wmA,t2]
  refine closed hp rfl h1 rfl ?_
  simp -implicitDefEqProofs (disch := first | assumption | (simp only [wnA]; done) | (simp only [wnA]; omega) | omega) [wkA,rtZ,sbZ,dC,ev,fiZ,pkZ,putAt,bnd,slD,gZ0,gZ1,dR.eq_20,Mem.cell,Mem.row,wmA,t2,wB]
  refine closed hp rfl h2 rfl ?_
  simp -implicitDefEqProofs (disch := first | assumption | (simp only [wnA]; done) | (simp only [wnA]; omega) | omega) [wkA,rtZ,sbZ,dC,ev,fiZ,pkZ,putAt,bnd,slD,gZ0,gZ1,dR.eq_20,Mem.cell,Mem.row,wmA,t2,wB,wk,wB1]
  have hlen := digs_64 hB2 ha
  refine LoopW_of (fun n ts' m' => ∃ (u : Nat) (t : List UInt8) (cs : List Value),u = n ∧ u ≤ a ∧ digs B a = digs B u ++ t ∧ Old m m' ∧ m'.get i = .own cs 247 ∧ cs.length = 65 ∧ cs.drop (65 - t.length) = t.map byteV ∧
      ts' 1 = .int .u64 (u : Int) ∧ ts' 3 = .bool neg ∧ ts' 4 = .bool false ∧ ts' 10 = .slice none 0 0 ∧ ts' 12 = .pointer (some ⟨i,0,none⟩) ∧ ts' 13 = .int .i64 ((65 - t.length : Nat) : Int) ∧ ts' 14 = .int .u64 (k : Int) ∧ ts' 15 = .int .u64 (B : Int) ∧ ts' 16 = .int .u64 ((B : Int) - 1)) a ?_ ?_
  · exact ⟨a,[],zs,rfl,Nat.le_refl _,by simp,ho,hz,hzl,by simp [hzl],by simp [t1],by simp [t3],by simp [t4],by simp [t10],by simp [t12],by simp [t13],by simp,by simp,by simp⟩
  · rintro n ts' m' K ⟨u,t,cs,rfl,hua,hd,o',g',hl,hdr,s1,s3,s4,s10,s12,s13,s14,s15,s16⟩ hK
    have hdl := congrArg List.length hd
    simp only [List.length_append] at hdl
    have hpos := digs_pos B u
    have htl : t.length < 65 := by omega
    have eI : ((65 - t.length : Nat) : Int) - 1 = ((65 - t.length - 1 : Nat) : Int) := by omega
    have wI : IntKind.i64.wrap (((65 - t.length : Nat) : Int) - 1) = ((65 - t.length - 1 : Nat) : Int) := by rw [eI]; exact w64 (by omega)
    have hin : (0 : Int) ≤ ((65 - t.length - 1 : Nat) : Int) ∧ ((65 - t.length - 1 : Nat) : Int) < 65 := by omega
    have hu64 : u < 18446744073709551616 := by omega
    generalize hJ : 65 - t.length - 1 = J at *
    have hmod : u % B < 36 := Nat.lt_of_lt_of_le (Nat.mod_lt _ (by omega)) (by omega)
    have kA : dBin .and (.int .u64 (u : Int)) (.int .u64 ((B : Int) - 1)) = some (.int .u64 ((u % B : Nat) : Int)) := by
      have := dAnd (u := u) (k := k) hu64 (by omega) (z := (B : Int) - 1) (by rw [hB]; have : 0 < 2 ^ k := Nat.pow_pos (by omega); omega)
      rw [← hB] at this; exact this
    have kS : dBin .shr (.int .u64 (u : Int)) (.int .u64 (k : Int)) = some (.int .u64 ((u / B : Nat) : Int)) := by
      have := dShr (u := u) (k := k) (by omega) (z := (k : Int)) rfl
      rw [← hB] at this; exact this
    have kX := digitsS_at ⟨u % B,hmod⟩
    simp only [digitsS] at kX
    have m0 : (0 : Int) ≤ ((u % B : Nat) : Int) := by omega
    have hcoe : (((u % B : Nat) : Int)).toNat = u % B := Int.toNat_natCast _
    have hJl : J + 1 ≤ cs.length := by omega
    simp -implicitDefEqProofs (disch := first | assumption | (simp only [wnA]; done) | (simp only [wnA]; omega) | omega) [rc92_1,wkA,rtZ,sbZ,dC,ev,fiZ,pkZ,putAt,bnd,slD,gZ0,gZ1,dR.eq_20,Mem.cell,Mem.row,wmA,s1,s15]
    by_cases hBu : B ≤ u
    · generalize hM : u % B = M at *
      simp -implicitDefEqProofs (disch := first | assumption | (simp only [wnA]; done) | (simp only [wnA]; omega) | omega) [rc92_0,wkA,rtZ,sbZ,dC,ev,fiZ,pkZ,putAt,bnd,slD,gZ0,gZ1,dR.eq_20,Mem.cell,Mem.row,wmA,s1,s12,s13,s14,s15,s16,hBu,wI,kA,kS,kX,m0,hin]
      refine SK_st (i := i) (o := J) (by simp [wkA,rtZ,sbZ,dC,ev,fiZ,pkZ,putAt,bnd,slD,gZ0,gZ1,dR.eq_20]) (e := 247) g' (by omega) (by simp [wkA,rtZ,sbZ,dC,ev,fiZ,pkZ,putAt,bnd,slD,gZ0,gZ1,dR.eq_20]) (by simp [wkA,rtZ,sbZ,dC,ev,fiZ,pkZ,putAt,bnd,slD,gZ0,gZ1,dR.eq_20,oneC]) ?_
      simp -implicitDefEqProofs (disch := first | assumption | (simp only [wnA]; done) | (simp only [wnA]; omega) | omega) [wkA,rtZ,sbZ,dC,ev,fiZ,pkZ,putAt,bnd,slD,gZ0,gZ1,dR.eq_20,Mem.cell,Mem.row,wmA,s1,s14,kS]
      have hpa := putAt_ahead (c := digC M) hl htl hdr
      rw [hJ] at hpa
      have hpe : putAt cs J [.int .u8 (digC M).toNat] = cs.take J ++ .int .u8 (digC M).toNat :: cs.drop (J + 1) := by simp [putAt]
      rw [← hpe]
      refine hK (u / B) _ _ (Nat.div_lt_self (by omega) (by omega)) ⟨u / B,digC M :: t,_,rfl,Nat.le_trans (Nat.div_le_self _ _) hua,?_,o'.set hi _,by simp,hpa.1,hpa.2,by simp,by simp [s3],by simp [s4],by simp [s10],by simp [s12],?_,by simp [s14],by simp [s15],by simp [s16]⟩
      · rw [hd,digs_ge (by omega) hBu,hM]; simp
      · have : 65 - (digC M :: t).length = J := by simp; omega
        rw [this]; simp
    · have hub : u < 36 := by omega
      have kY := digitsS_at ⟨u,hub⟩
      simp only [digitsS] at kY
      have m1' : (0 : Int) ≤ (u : Int) := by omega
      simp -implicitDefEqProofs (disch := first | assumption | (simp only [wnA]; done) | (simp only [wnA]; omega) | omega) [rc92_2,wkA,rtZ,sbZ,dC,ev,fiZ,pkZ,putAt,bnd,slD,gZ0,gZ1,dR.eq_20,Mem.cell,Mem.row,wmA,s1,s12,s13,s14,s15,s16,hBu,wI,kY,m1',hin]
      refine SK_st (i := i) (o := J) (by simp [wkA,rtZ,sbZ,dC,ev,fiZ,pkZ,putAt,bnd,slD,gZ0,gZ1,dR.eq_20]) (e := 247) g' (by omega) (by simp [wkA,rtZ,sbZ,dC,ev,fiZ,pkZ,putAt,bnd,slD,gZ0,gZ1,dR.eq_20]) (by simp [wkA,rtZ,sbZ,dC,ev,fiZ,pkZ,putAt,bnd,slD,gZ0,gZ1,dR.eq_20,oneC]) ?_
      have hpa := putAt_ahead (c := digC u) hl htl hdr
      rw [hJ] at hpa
      have hpe : putAt cs J [.int .u8 (digC u).toNat] = cs.take J ++ .int .u8 (digC u).toNat :: cs.drop (J + 1) := by simp [putAt]
      have hfull : digs B a = digC u :: t := by rw [hd,digs_lt (by omega)]; simp
      simp -implicitDefEqProofs (disch := first | assumption | (simp only [wnA]; done) | (simp only [wnA]; omega) | omega) [wkA,rtZ,sbZ,dC,ev,fiZ,pkZ,putAt,bnd,slD,gZ0,gZ1,dR.eq_20,Mem.cell,Mem.row,wmA]
      rw [← hpe]
      obtain ⟨p1,p2⟩ := hpa
      generalize putAt cs J [.int .u8 (digC u).toNat] = cs2 at *
      rw [hfull] at hlen hq
      have hJ2 : 65 - (digC u :: t).length = J := by simp; omega
      have hlen2 : t.length + 1 ≤ 22 := by simpa using hlen
      cases neg with
      | false =>
        have eL : (0 : Int) ≤ (J : Int) ∧ (J : Int) ≤ 65 := by omega
        have eJ0 : J ≠ 0 := by omega
        have eJ65 : J ≠ 65 := by omega
        have hrow : (cs2.drop J).take (65 - J) = (digC u :: t).map byteV := by rw [← hJ2,p2]; exact List.take_of_length_le (by simp; omega)
        simp -implicitDefEqProofs (disch := first | assumption | (simp only [wnA]; done) | (simp only [wnA]; omega) | omega) [rc92_8,rc92_7,rc92_6,wkA,rtZ,sbZ,dC,ev,fiZ,pkZ,putAt,bnd,slD,gZ0,gZ1,dR.eq_20,Mem.cell,Mem.row,wmA,s3,s4,s10,s12,p1,eL]
        rw [bstr_tail (e := 247) (t := digC u :: t) (by simp) p1 hJ2 (by simp; omega) p2]
        simp -implicitDefEqProofs (disch := first | assumption | (simp only [wnA]; done) | (simp only [wnA]; omega) | omega) [wkA,rtZ,sbZ,dC,ev,fiZ,pkZ,putAt,bnd,slD,gZ0,gZ1,dR.eq_20,Mem.cell,Mem.row,wmA,s10]
        have := hq _ (o'.set hi (.own cs2 247))
        simpa [sgn] using this
      | true =>
        have hlt2 : (digC u :: t).length < 65 := by simp; omega
        have eJ1 : (J : Int) - 1 = ((J - 1 : Nat) : Int) := by omega
        have wJ : IntKind.i64.wrap ((J : Int) - 1) = ((J - 1 : Nat) : Int) := by rw [eJ1]; exact w64 (by omega)
        have hin2 : (0 : Int) ≤ ((J - 1 : Nat) : Int) ∧ ((J - 1 : Nat) : Int) < 65 := by omega
        have hp3 := putAt_ahead (c := 45) p1 hlt2 p2
        rw [hJ2] at hp3
        obtain ⟨p3,p4⟩ := hp3
        generalize hK2 : J - 1 = J3 at *
        have hpe3 : putAt cs2 J3 [.int .u8 (45 : UInt8).toNat] = cs2.take J3 ++ .int .u8 45 :: cs2.drop (J3 + 1) := by simp [putAt]
        simp -implicitDefEqProofs (disch := first | assumption | (simp only [wnA]; done) | (simp only [wnA]; omega) | omega) [rc92_8,wkA,rtZ,sbZ,dC,ev,fiZ,pkZ,putAt,bnd,slD,gZ0,gZ1,dR.eq_20,Mem.cell,Mem.row,wmA,s3,s4,s10,s12,wJ,hin2]
        refine SK_st (i := i) (o := J3) (by simp [wkA,rtZ,sbZ,dC,ev,fiZ,pkZ,putAt,bnd,slD,gZ0,gZ1,dR.eq_20]) (e := 247) (cs := cs2) (by simp) (by omega) (by simp [wkA,rtZ,sbZ,dC,ev,fiZ,pkZ,putAt,bnd,slD,gZ0,gZ1,dR.eq_20]) (by simp [wkA,rtZ,sbZ,dC,ev,fiZ,pkZ,putAt,bnd,slD,gZ0,gZ1,dR.eq_20,oneC]) ?_
        simp -implicitDefEqProofs (disch := first | assumption | (simp only [wnA]; done) | (simp only [wnA]; omega) | omega) [wkA,rtZ,sbZ,dC,ev,fiZ,pkZ,putAt,bnd,slD,gZ0,gZ1,dR.eq_20,Mem.cell,Mem.row,wmA]
        rw [← hpe3]
        generalize putAt cs2 J3 [.int .u8 (45 : UInt8).toNat] = cs4 at *
        have eL : (0 : Int) ≤ (J3 : Int) ∧ (J3 : Int) ≤ 65 := by omega
        have eJ0 : J3 ≠ 0 := by omega
        have eJ65 : J3 ≠ 65 := by omega
        have hJ4 : 65 - (45 :: digC u :: t).length = J3 := by simp; omega
        simp -implicitDefEqProofs (disch := first | assumption | (simp only [wnA]; done) | (simp only [wnA]; omega) | omega) [rc92_7,rc92_6,wkA,rtZ,sbZ,dC,ev,fiZ,pkZ,putAt,bnd,slD,gZ0,gZ1,dR.eq_20,Mem.cell,Mem.row,wmA,s3,s4,s10,s12,p3,eL]
        rw [bstr_tail (e := 247) (t := 45 :: digC u :: t) (by simp) p3 hJ4 (by simp; omega) p4]
        simp -implicitDefEqProofs (disch := first | assumption | (simp only [wnA]; done) | (simp only [wnA]; omega) | omega) [wkA,rtZ,sbZ,dC,ev,fiZ,pkZ,putAt,bnd,slD,gZ0,gZ1,dR.eq_20,Mem.cell,Mem.row,wmA,s10]
        have := hq _ ((o'.set hi (.own cs2 247)).set hi (.own cs4 247))
        simpa [sgn] using this
theorem c_fmtBits {w0 : World} {m : Mem} {B k a : Nat} {u : Int} {neg : Bool} {Q : Value → Mem → Prop} (hp : Part L0 m) (hB : B = 2 ^ k) (hk : 3 ≤ k ∧ k ≤ 5) (hne : B ≠ 10) (ha : a < 18446744073709551616)
    (hu : u = if neg then IntKind.u64.wrap (0 - (a : Int)) else (a : Int))
    (h1 : outIs (.bool true) (callE tab (xCall xs) Tryz.prog 50 110 [.int .i64 (B : Int)] L0) = true)
    (h2 : outIs (.int .i64 (k : Int)) (callE tab (xCall xs) Tryz.prog 50 111 [.int .u64 (B : Int)] L0) = true)
    (hq : ∀ m',Old m m' → Q (.tuple ⟨[.slice none 0 0,.string ⟨⟨sgn neg ++ digs B a⟩⟩]⟩) m') :
    AbC Tryz.prog w0 92 [.slice none 0 0,.int .u64 u,.int .i64 (B : Int),.bool neg,.bool false] m Q := by
  refine AbC_fn ok92 (by simp) ?_
  have hB2 : 8 ≤ B := by rw [hB]; calc 8 = 2 ^ 3 := rfl
    _ ≤ 2 ^ k := Nat.pow_le_pow_right (by omega) hk.1
  have hB3 : B ≤ 32 := by rw [hB]; calc 2 ^ k ≤ 2 ^ 5 := Nat.pow_le_pow_right (by omega) hk.2
    _ = 32 := rfl
  have f1 : (2 : Int) ≤ B := by omega
  have f2 : (B : Int) ≠ 10 := by omega
  have f3 : (B : Int) ≤ 36 := by omega
  simp -implicitDefEqProofs (disch := first | assumption | (simp only [wnA]; done) | (simp only [wnA]; omega) | omega) [rc92,ro92,wkA,rtZ,sbZ,dC,ev,fiZ,pkZ,putAt,bnd,slD,gZ0,gZ1,dR.eq_20,Mem.cell,Mem.row,wmA,ltF f1,beqF f2,gtF f3]
  have ho : ∀ E,Old m (m.push E) := fun E => (Old.refl m).push _
  cases neg with
  | false =>
    have hu' : u = (a : Int) := by simpa using hu
    subst hu'
    simp -implicitDefEqProofs (disch := first | assumption | (simp only [wnA]; done) | (simp only [wnA]; omega) | omega) [rc92_10,wkA,rtZ,sbZ,dC,ev,fiZ,pkZ,putAt,bnd,slD,gZ0,gZ1,dR.eq_20,Mem.cell,Mem.row,wmA]
    exact c_fmtTail (k := k) ((ho _).part hp) (ho _) (Nat.le_refl m.next) (by simp) (by simp -implicitDefEqProofs (disch := first | assumption | (simp only [wnA]; done) | (simp only [wnA]; omega) | omega) [Mem.cell,Mem.row,wmA]; rfl) (by simp) hB hk hB2 hB3 ha (by simp [frA_at]) (by simp [frA_at]) (by simp [frA_at]) (by simp [frA_at]) (by simp) (by simp) (by simp) h1 h2 hq
  | true =>
    have hu' : u = IntKind.u64.wrap (0 - (a : Int)) := by simpa using hu
    have hw : IntKind.u64.wrap (0 - u) = (a : Int) := by
      subst hu'
      simp only [IntKind.wrap,IntKind.bits,IntKind.signed]
      simp
      omega
    have hw' : IntKind.u64.wrap (-u) = (a : Int) := by simpa using hw
    simp -implicitDefEqProofs (disch := first | assumption | (simp only [wnA]; done) | (simp only [wnA]; omega) | omega) [rc92_10,wkA,rtZ,sbZ,dC,ev,fiZ,pkZ,putAt,bnd,slD,gZ0,gZ1,dR.eq_20,Mem.cell,Mem.row,wmA,hw,hw']
    exact c_fmtTail (k := k) ((ho _).part hp) (ho _) (Nat.le_refl m.next) (by simp) (by simp -implicitDefEqProofs (disch := first | assumption | (simp only [wnA]; done) | (simp only [wnA]; omega) | omega) [Mem.cell,Mem.row,wmA]; rfl) (by simp) hB hk hB2 hB3 ha (by simp [frA_at]) (by simp [frA_at]) (by simp [frA_at]) (by simp [frA_at]) (by simp) (by simp) (by simp) h1 h2 hq
end Go.Proofs.YtccjlggpiliilaaGreatDoor.Ab

set_option linter.unusedVariables false
set_option linter.unusedSimpArgs false
namespace Go.Proofs.YtccjlggpiliilaaGreatDoor.Ab
open Go Go.RowKit
set_option maxHeartbeats 4000000
set_option maxRecDepth 100000
def slaW (m : Mem) (len sz : Nat) (v : Value) (lo hi : Option Value) : Option Value := match v with
  | .pointer (some ⟨i,o,none⟩) => match m.get i with
    | .own cs _ => if o + len * sz ≤ cs.length ∧ 0 < len * sz then slW sz (.slice (some ⟨i,o,none⟩) len sz) lo hi else none
    | _ => none
  | _ => none
theorem slW_slD {ts : Fr} {len sz i o : Nat} {lo hi : Option Operand} : slW sz (.slice (some ⟨i,o,none⟩) len sz) (lo.map (ev ts)) (hi.map (ev ts)) = slD sz ts lo hi i o len := by
  have e1 : ∀ a b,bnd (fun k => if k = 0 then Value.slice (some ⟨i,o,none⟩) len sz else if k = 1 then (lo.map (ev ts)).getD undef else (hi.map (ev ts)).getD undef) ((lo.map (ev ts)).map fun _ => .tmp 1) a b = bnd ts lo a b := fun a b => by cases lo <;> rfl
  have e2 : ∀ a b,bnd (fun k => if k = 0 then Value.slice (some ⟨i,o,none⟩) len sz else if k = 1 then (lo.map (ev ts)).getD undef else (hi.map (ev ts)).getD undef) ((hi.map (ev ts)).map fun _ => .tmp 2) a b = bnd ts hi a b := fun a b => by cases hi <;> rfl
  unfold slW
  rw [dR.eq_20]
  simp only [ev,if_true,slD,e1,e2]
theorem dR_sla {ts : Fr} {m : Mem} {len sz : Nat} {x : Operand} {lo hi : Option Operand} : dR ts m (.sla len sz x lo hi) = slaW m len sz (ev ts x) (lo.map (ev ts)) (hi.map (ev ts)) := by
  rw [dR.eq_21]
  unfold slaW
  generalize ev ts x = v
  split
  · rename_i i o
    simp only []
    cases m.get i <;> simp only []
    rw [slW_slD]
  · rename_i hne
    split
    · rename_i i o
      exact (hne i o rfl).elim
    · rfl
theorem SK_fn {P : Program} {w0 : World} {ts : Fr} {m : Mem} {R : Value → Mem → Prop} {f : FuncId} {args : List Operand} : SK P w0 (.c (.fn f args)) ts m R = AbC P w0 f (args.map (ev ts)) m R := rfl
def slsW (s : Value) (lo hi : Option Value) : Option Value :=
  dR (fun k => if k = 0 then s else if k = 1 then lo.getD undef else hi.getD undef) ⟨0,fun _ => .dead⟩ (.sls (.tmp 0) (lo.map fun _ => .tmp 1) (hi.map fun _ => .tmp 2))
theorem dR_sls {ts : Fr} {m : Mem} {x : Operand} {lo hi : Option Operand} : dR ts m (.sls x lo hi) = slsW (ev ts x) (lo.map (ev ts)) (hi.map (ev ts)) := by
  cases lo <;> cases hi <;> rfl
theorem wkB : type_of% (And.intro @AbW_skip (And.intro @AbW_run (And.intro @AbW_fork (And.intro @AbW_seq (And.intro @AbW_condR (And.intro @condR_true (And.intro @condR_false (And.intro @AbW_block (And.intro @AbW_loop (And.intro @AbW_jumps (And.intro @AbW_label (And.intro @AbW_goto (And.intro @jumpA_normal (And.intro @jumpA_exit (And.intro @jumpA_ret (And.intro @jumpA_goto (And.intro @dEq_bool (And.intro @dEq_int (And.intro @dEq_str (And.intro @dEq_ptr0 (And.intro @dEq_ptr1 (And.intro @dEq_ptr2 (And.intro @dEq_nil (And.intro @dEq_niln (And.intro @dEq_nnil (And.intro @AbW_exit (And.intro @AbW_ret (And.intro @thenA_normal (And.intro @thenA_exit (And.intro @thenA_ret (And.intro @inBlockA_normal (And.intro @inBlockA_exit (And.intro @inBlockA_ret (And.intro @bodyA_normalR (And.intro @bodyA_retR (And.intro @RS_nil (And.intro @RS_consG (And.intro @guardR_true (And.intro @guardR_false (And.intro @contK_at (And.intro @SK_rr (And.intro @bindR_some (And.intro @SK_a (And.intro @SK_fn (And.intro @wantD_none (And.intro @wantD_some (And.intro @wantB_bool (And.intro @wantB_undef (And.intro @dR_lenl (And.intro @dR_ia (And.intro @dR_b2s (And.intro @slen_sl (And.intro @dR.eq_1 (And.intro @dR.eq_2 (And.intro @dR.eq_3 (And.intro @dR.eq_4 (And.intro @dR.eq_5 (And.intro @dR.eq_6 (And.intro @dR.eq_7 (And.intro @dR.eq_8 (And.intro @dR.eq_9 (And.intro @dR.eq_10 (And.intro @dR.eq_11 (And.intro @dR.eq_12 (And.intro @dR.eq_13 (And.intro @dR.eq_14 (And.intro @dR.eq_16 (And.intro @dR.eq_17 (And.intro @dR.eq_18 (And.intro @dR_sls (And.intro @dR_sla (And.intro @dR.eq_22 (And.intro @dR.eq_24 (And.intro @dR.eq_25 (And.intro @dR.eq_26 (And.intro @dR.eq_27 (And.intro @dR.eq_28 (And.intro @dR.eq_29 (And.intro @dR.eq_30 (And.intro @dR.eq_32 (And.intro @dR.eq_33 (And.intro @dR.eq_34 (And.intro @dR.eq_35 (And.intro @dR.eq_36 (And.intro @dR.eq_37 (And.intro @dR.eq_39 (And.intro @frA_at (And.intro @cellsV_agg (And.intro @cellsV_bool (And.intro @cellsV_int (And.intro @cellsV_str (And.intro @cellsV_ptr (And.intro @cellsV_sl (And.intro @cellsV_slV (And.intro @cellsV_map (And.intro @cellsV_iface (And.intro @cellsV_nili (And.intro @cellsV_func (And.intro @cellsV_nilf (And.intro @lenV_sl (And.intro @lenV_str (And.intro @oneC_slV (And.intro @thenA_goto (And.intro @inBlockA_goto (@dR_sl))))))))))))))))))))))))))))))))))))))))))))))))))))))))))))))))))))))))))))))))))))))))))))))))))))))))) := And.intro @AbW_skip (And.intro @AbW_run (And.intro @AbW_fork (And.intro @AbW_seq (And.intro @AbW_condR (And.intro @condR_true (And.intro @condR_false (And.intro @AbW_block (And.intro @AbW_loop (And.intro @AbW_jumps (And.intro @AbW_label (And.intro @AbW_goto (And.intro @jumpA_normal (And.intro @jumpA_exit (And.intro @jumpA_ret (And.intro @jumpA_goto (And.intro @dEq_bool (And.intro @dEq_int (And.intro @dEq_str (And.intro @dEq_ptr0 (And.intro @dEq_ptr1 (And.intro @dEq_ptr2 (And.intro @dEq_nil (And.intro @dEq_niln (And.intro @dEq_nnil (And.intro @AbW_exit (And.intro @AbW_ret (And.intro @thenA_normal (And.intro @thenA_exit (And.intro @thenA_ret (And.intro @inBlockA_normal (And.intro @inBlockA_exit (And.intro @inBlockA_ret (And.intro @bodyA_normalR (And.intro @bodyA_retR (And.intro @RS_nil (And.intro @RS_consG (And.intro @guardR_true (And.intro @guardR_false (And.intro @contK_at (And.intro @SK_rr (And.intro @bindR_some (And.intro @SK_a (And.intro @SK_fn (And.intro @wantD_none (And.intro @wantD_some (And.intro @wantB_bool (And.intro @wantB_undef (And.intro @dR_lenl (And.intro @dR_ia (And.intro @dR_b2s (And.intro @slen_sl (And.intro @dR.eq_1 (And.intro @dR.eq_2 (And.intro @dR.eq_3 (And.intro @dR.eq_4 (And.intro @dR.eq_5 (And.intro @dR.eq_6 (And.intro @dR.eq_7 (And.intro @dR.eq_8 (And.intro @dR.eq_9 (And.intro @dR.eq_10 (And.intro @dR.eq_11 (And.intro @dR.eq_12 (And.intro @dR.eq_13 (And.intro @dR.eq_14 (And.intro @dR.eq_16 (And.intro @dR.eq_17 (And.intro @dR.eq_18 (And.intro @dR_sls (And.intro @dR_sla (And.intro @dR.eq_22 (And.intro @dR.eq_24 (And.intro @dR.eq_25 (And.intro @dR.eq_26 (And.intro @dR.eq_27 (And.intro @dR.eq_28 (And.intro @dR.eq_29 (And.intro @dR.eq_30 (And.intro @dR.eq_32 (And.intro @dR.eq_33 (And.intro @dR.eq_34 (And.intro @dR.eq_35 (And.intro @dR.eq_36 (And.intro @dR.eq_37 (And.intro @dR.eq_39 (And.intro @frA_at (And.intro @cellsV_agg (And.intro @cellsV_bool (And.intro @cellsV_int (And.intro @cellsV_str (And.intro @cellsV_ptr (And.intro @cellsV_sl (And.intro @cellsV_slV (And.intro @cellsV_map (And.intro @cellsV_iface (And.intro @cellsV_nili (And.intro @cellsV_func (And.intro @cellsV_nilf (And.intro @lenV_sl (And.intro @lenV_str (And.intro @oneC_slV (And.intro @thenA_goto (And.intro @inBlockA_goto (@dR_sl))))))))))))))))))))))))))))))))))))))))))))))))))))))))))))))))))))))))))))))))))))))))))))))))))))))))
abbrev HL := List (Option Nat × Ent)
def ids (l : HL) (i : Nat) : Prop := ∃ p ∈ l,p.1 = some i
def Apart (p q : Option Nat × Ent) : Prop := ∀ i,p.1 = some i → q.1 ≠ some i
theorem Apart.symm {p q : Option Nat × Ent} (h : Apart p q) : Apart q p := fun i hq hp => h i hp hq
theorem Part.kV {L : LM} {V : Nat → Prop} {m m' : Mem} (h : Part L m) (k : Keeps V m m') (hV : ∀ i,i < L.n → V i) : Part L m' := by
  refine ⟨Nat.le_trans h.1 k.1,fun i => ?_⟩
  rcases h.2 i with h1 | ⟨cs,h1,h2,h3⟩
  · exact .inl h1
  · have hi : i < L.n := by
      rcases Nat.lt_or_ge i L.n with h' | h'
      · exact h'
      · rw [LM.get_ge (by omega)] at h1; cases h1
    exact .inr ⟨cs,h1,by rw [k.2 i (Nat.lt_of_lt_of_le hi h.1) (hV i hi)]; exact h2,h3⟩
def byH (ob : Option Nat) (l : List UInt8) : Option Nat × Ent := (ob,.own (l.map byteV) 5)
structure Sep (m0 : Mem) (V : Nat → Prop) (m : Mem) (l : HL) : Prop where
  k : Keeps V m0 m
  vl : ∀ i,V i → i < m0.next
  gl : ∀ i,i < L0.n → V i
  pt : Part L0 m
  ok : ∀ p ∈ l,∀ i,p.1 = some i → m.get i = p.2 ∧ i < m.next ∧ ¬ V i
  ap : l.Pairwise Apart
section
variable {m0 m m' : Mem} {V : Nat → Prop} {l l' A A' B : HL}
theorem Sep.step (h : Sep m0 V m l) (k : Keeps V m m') (ok : ∀ p ∈ l',∀ i,p.1 = some i → m'.get i = p.2 ∧ i < m'.next ∧ ¬ V i) (ap : l'.Pairwise Apart) : Sep m0 V m' l' :=
  ⟨h.k.trans k,h.vl,h.gl,h.pt.kV k h.gl,ok,ap⟩
theorem Sep.n (h : Sep m0 V m l) : m0.next ≤ m.next := h.k.1
theorem Sep.self (h : Sep m0 V m l) : Sep m V m l := ⟨Keeps.refl V m,fun i hi => Nat.lt_of_lt_of_le (h.vl i hi) h.n,h.gl,h.pt,h.ok,h.ap⟩
theorem Sep.tr (h : Sep m0 V m l) (h2 : Sep m V m' l') : Sep m0 V m' l' := ⟨h.k.trans h2.k,h.vl,h.gl,h2.pt,h2.ok,h2.ap⟩
theorem Sep.trm {V' : Nat → Prop} (h : Sep m0 V m l) (h2 : Sep m V' m' l') (hV : ∀ i,V i → V' i) : Sep m0 V m' l' := ⟨h.k.trans (h2.k.mono fun i _ hi => hV i hi),h.vl,h.gl,h2.pt,fun p hp i hi => let a := h2.ok p hp i hi; ⟨a.1,a.2.1,fun hv => a.2.2 (hV i hv)⟩,h2.ap⟩
theorem Sep.mem (h : Sep m0 V m l) {i : Nat} {E : Ent} (hm : (some i,E) ∈ l) : m.get i = E := (h.ok _ hm i rfl).1
theorem Sep.get (h : Sep m0 V m l) (n : Nat) {i : Nat} {E : Ent} (hn : l[n]? = some (some i,E)) : m.get i = E := h.mem (List.mem_of_getElem? hn)
theorem Sep.lt (h : Sep m0 V m l) (n : Nat) {i : Nat} {E : Ent} (hn : l[n]? = some (some i,E)) : i < m.next := (h.ok _ (List.mem_of_getElem? hn) i rfl).2.1
theorem Sep.nv (h : Sep m0 V m l) (n : Nat) {i : Nat} {E : Ent} (hn : l[n]? = some (some i,E)) : ¬ V i := (h.ok _ (List.mem_of_getElem? hn) i rfl).2.2
theorem Sep.il (h : Sep m0 V m l) {i : Nat} (hi : ids l i) : i < m.next ∧ ¬ V i := by
  obtain ⟨p,hp,he⟩ := hi
  exact (h.ok p hp i he).2
theorem Sep.ne (h : Sep m0 V m l) {j n : Nat} (hjn : j ≠ n) {p q : Option Nat × Ent} (hj : l[j]? = some p) (hn : l[n]? = some q) : Apart p q := by
  obtain ⟨a,rfl⟩ := List.getElem?_eq_some_iff.1 hj
  obtain ⟨b,rfl⟩ := List.getElem?_eq_some_iff.1 hn
  have := List.pairwise_iff_getElem.1 h.ap
  rcases Nat.lt_or_gt_of_ne hjn with h1 | h1
  · exact this _ _ a b h1
  · exact (this _ _ b a h1).symm
theorem apart_set (h : l.Pairwise Apart) {n : Nat} {x : Option Nat × Ent} (hx : ∀ k p,k ≠ n → l[k]? = some p → Apart p x) : (l.set n x).Pairwise Apart := by
  rw [List.pairwise_iff_getElem] at h ⊢
  intro i j hi hj hij
  simp only [List.length_set] at hi hj
  rw [List.getElem_set,List.getElem_set]
  split
  · split
    · omega
    · exact (hx j _ (by omega) (List.getElem?_eq_getElem hj)).symm
  · split
    · exact hx i _ (by omega) (List.getElem?_eq_getElem hi)
    · exact h i j hi hj hij
theorem Sep.upd (h : Sep m0 V m l) (n : Nat) {p0 x : Option Nat × Ent} (hn : l[n]? = some p0) (k : Keeps V m m') (hx : ∀ i,x.1 = some i → m'.get i = x.2 ∧ i < m'.next ∧ ¬ V i) (hxo : ∀ i,x.1 = some i → p0.1 = some i ∨ m.next ≤ i)
    (ho : ∀ i,i < m.next → p0.1 ≠ some i → m'.get i = m.get i) : Sep m0 V m' (l.set n x) := by
  refine h.step k (fun p hp i hi => ?_) (apart_set h.ap fun j p hj hp i hi hxi => ?_)
  · obtain ⟨j,hj⟩ := List.mem_iff_getElem?.1 hp
    rw [List.getElem?_set] at hj
    split at hj
    · split at hj
      · cases hj; exact hx i hi
      · cases hj
    · rename_i hnj
      have h1 := h.ok p (List.mem_of_getElem? hj) i hi
      have h2 := h.ne (fun e => hnj e.symm) hj hn i hi
      exact ⟨by rw [ho i h1.2.1 h2]; exact h1.1,Nat.lt_of_lt_of_le h1.2.1 k.1,h1.2.2⟩
  · rcases hxo i hxi with h1 | h1
    · exact h.ne hj hp hn i hi h1
    · have := (h.ok p (List.mem_of_getElem? hp) i hi).2.1
      omega
theorem Sep.set (h : Sep m0 V m l) (n : Nat) {i : Nat} {E0 : Ent} (hn : l[n]? = some (some i,E0)) (E : Ent) : Sep m0 V (m.set i E) (l.set n (some i,E)) := by
  refine h.upd n hn ((Keeps.refl V m).set (fun _ => h.nv n hn) E) (fun j hj => ?_) (fun j hj => .inl hj) fun j hj hne => Mem.set_other _ _ fun e => hne (by rw [e])
  cases hj
  exact ⟨Mem.set_same _ _ _,h.lt n hn,h.nv n hn⟩
theorem Sep.vn (h : Sep m0 V m l) {i : Nat} (hi : m.next ≤ i) : ¬ V i := fun hv => by have := h.vl i hv; have := h.n; omega
theorem Sep.repl (h : Sep m0 V m l) (n : Nat) {ob : Option Nat} {E0 : Ent} (hn : l[n]? = some (ob,E0)) (E : Ent) : Sep m0 V ((m.kill ob).push E) (l.set n (some m.next,E)) := by
  refine h.upd n hn (((Keeps.refl V m).kill fun i hi _ => (h.ok _ (List.mem_of_getElem? hn) i hi).2.2).push E) (fun j hj => ?_) (fun j hj => .inr (by cases hj; exact Nat.le_refl _)) fun j hj hne => ?_
  · cases hj
    exact ⟨Mem.push_at _ _ rfl,by simp [Mem.kill_nxt],h.vn (Nat.le_refl _)⟩
  · rw [Mem.push_old _ _ (by simpa [Mem.kill_nxt] using hj),Mem.kill_other _ hne]
theorem Sep.old (h : Sep m0 V m l) (o : Old m m') : Sep m0 V m' l :=
  h.step o.keeps (fun p hp i hi => let h1 := h.ok p hp i hi; ⟨by rw [o.2 i h1.2.1]; exact h1.1,Nat.lt_of_lt_of_le h1.2.1 o.1,h1.2.2⟩) h.ap
theorem Sep.new (h : Sep m0 V m l) {ob : Option Nat} {E : Ent} (o : Old m m') (hb : ∀ i,ob = some i → m.next ≤ i ∧ i < m'.next ∧ m'.get i = E) : Sep m0 V m' ((ob,E) :: l) := by
  have h1 := h.old o
  refine h.step o.keeps (fun p hp i hi => ?_) (List.pairwise_cons.2 ⟨fun q hq i hi hqi => ?_,h.ap⟩)
  · rcases List.mem_cons.1 hp with rfl | hp
    · have := hb i hi
      exact ⟨this.2.2,this.2.1,h.vn this.1⟩
    · exact h1.ok p hp i hi
  · have := (h.ok q hq i hqi).2.1
    have := (hb i hi).1
    omega
theorem Sep.non (h : Sep m0 V m l) (E : Ent) : Sep m0 V m ((none,E) :: l) := h.new (Old.refl m) fun i hi => by cases hi
theorem Sep.push (h : Sep m0 V m l) (E : Ent) : Sep m0 V (m.push E) ((some m.next,E) :: l) :=
  h.new ((Old.refl m).push E) fun i hi => by cases hi; exact ⟨Nat.le_refl _,by simp,Mem.push_at _ _ rfl⟩
theorem Sep.sub (h : Sep m0 V m l) (hs : l'.Sublist l) : Sep m0 V m l' := ⟨h.k,h.vl,h.gl,h.pt,fun p hp => h.ok p (hs.subset hp),h.ap.sublist hs⟩
theorem Sep.tl {p : Option Nat × Ent} (h : Sep m0 V m (p :: l)) : Sep m0 V m l := h.sub (List.sublist_cons_self _ _)
theorem Sep.del (h : Sep m0 V m l) (n : Nat) : Sep m0 V m (l.eraseIdx n) := h.sub (List.eraseIdx_sublist _ _)
theorem Sep.sel (h : Sep m0 V m l) (is : List Nat) (hd : is.Nodup) : Sep m0 V m (is.filterMap fun k => l[k]?) := by
  refine ⟨h.k,h.vl,h.gl,h.pt,fun p hp => ?_,?_⟩
  · obtain ⟨k,_,hk⟩ := List.mem_filterMap.1 hp
    exact h.ok p (List.mem_of_getElem? hk)
  · rw [List.pairwise_filterMap]
    exact hd.imp fun {a b} hab p hp q hq => h.ne hab hp hq
theorem Sep.perm (h : Sep m0 V m l) (p : l.Perm l') : Sep m0 V m l' := ⟨h.k,h.vl,h.gl,h.pt,fun q hq => h.ok q (p.mem_iff.2 hq),(p.pairwise_iff Apart.symm).1 h.ap⟩
theorem Sep.fr (h : Sep m0 V m (A ++ B)) : Sep m (fun i => V i ∨ ids B i) m A := by
  have hp := List.pairwise_append.1 h.ap
  refine ⟨Keeps.refl _ m,fun i hi => ?_,fun i hi => .inl (h.gl i hi),h.pt,fun p hm i hi => ?_,hp.1⟩
  · rcases hi with hi | ⟨q,hq,he⟩
    · exact Nat.lt_of_lt_of_le (h.vl i hi) h.n
    · exact (h.ok q (List.mem_append_right _ hq) i he).2.1
  · have h1 := h.ok p (List.mem_append_left _ hm) i hi
    refine ⟨h1.1,h1.2.1,fun hv => hv.elim h1.2.2 fun ⟨q,hq,he⟩ => hp.2.2 p hm q hq i hi he⟩
theorem Sep.un (h : Sep m0 V m (A ++ B)) (h2 : Sep m (fun i => V i ∨ ids B i) m' A') : Sep m0 V m' (A' ++ B) := by
  have hp := List.pairwise_append.1 h.ap
  refine h.step (h2.k.mono fun i _ hi => .inl hi) (fun p hm i hi => ?_) (List.pairwise_append.2 ⟨h2.ap,hp.2.1,fun p hpA q hqB i hi hqi => ?_⟩)
  · rcases List.mem_append.1 hm with hm | hm
    · have h1 := h2.ok p hm i hi
      exact ⟨h1.1,h1.2.1,fun hv => h1.2.2 (.inl hv)⟩
    · have h1 := h.ok p (List.mem_append_right _ hm) i hi
      exact ⟨by rw [h2.k.2 i h1.2.1 (.inr ⟨p,hm,hi⟩)]; exact h1.1,Nat.lt_of_lt_of_le h1.2.1 h2.n,h1.2.2⟩
  · exact (h2.ok p hpA i hi).2.2 (.inr ⟨q,hqB,hqi⟩)
theorem Sep.slO (h : Sep m0 V m l) (n : Nat) {ob : Option Nat} {cs : List Value} {e sz k : Nat} (hn : l[n]? = some (ob,.own cs e)) (hl : cs.length = k * sz) (hp : ob = none → k = 0) : SlO m e sz ob cs k := by
  refine ⟨hl,?_⟩
  cases ob with
  | none => exact hp rfl
  | some b => exact ⟨h.get n hn,h.lt n hn⟩
theorem Sep.rd (h : Sep m0 V m l) (n : Nat) {ob : Option Nat} {cs : List Value} {e sz k : Nat} (hn : l[n]? = some (ob,.own cs e)) (hl : cs.length = k * sz) (hp : ob = none → k = 0) {X : Nat → Prop} (hX : ∀ i,ob = some i → X i) : RdV X m sz (slV ob k sz) cs k :=
  ⟨(h.slO n hn hl hp).read,fun b hb => by
    rw [blk_slV] at hb
    subst hb
    exact ⟨h.lt n hn,hX b rfl⟩⟩
theorem Sep.slm (h : Sep m0 V m l) {ob : Option Nat} {cs : List Value} {e sz k : Nat} (hm : (ob,Ent.own cs e) ∈ l) (hl : cs.length = k * sz) (hp : ob = none → k = 0) : SlO m e sz ob cs k := by
  obtain ⟨n,hn⟩ := List.mem_iff_getElem?.1 hm
  exact h.slO n hn hl hp
theorem Sep.rdm (h : Sep m0 V m l) {ob : Option Nat} {cs : List Value} {e sz k : Nat} (hm : (ob,Ent.own cs e) ∈ l) (hl : cs.length = k * sz) (hp : ob = none → k = 0) {X : Nat → Prop} (hX : ∀ i,ob = some i → X i) : RdV X m sz (slV ob k sz) cs k := by
  obtain ⟨n,hn⟩ := List.mem_iff_getElem?.1 hm
  exact h.rd n hn hl hp hX
theorem RdV.sep {sz n : Nat} {v : Value} {cs : List Value} (r : RdV V m0 sz v cs n) (h : Sep m0 V m l) : RdV V m sz v cs n := r.keep h.k
theorem Sep.prot (h : Sep m0 V m l) (P : Nat → Prop) (hp : ∀ i,P i → i < m.next ∧ ¬ ids l i) : Sep m (fun i => V i ∨ P i) m l :=
  ⟨Keeps.refl _ m,fun i hi => hi.elim (fun h' => Nat.lt_of_lt_of_le (h.vl i h') h.n) (fun h' => (hp i h').1),fun i hi => .inl (h.gl i hi),h.pt,fun p hp' i hi => let a := h.ok p hp' i hi; ⟨a.1,a.2.1,fun hv => hv.elim a.2.2 fun hP => (hp i hP).2 ⟨p,hp',hi⟩⟩,h.ap⟩
theorem Sep.of (hp : Part L0 m) (hv : ∀ i,V i → i < m.next) (hg : ∀ i,i < L0.n → V i) : Sep m V m [] := ⟨Keeps.refl V m,hv,hg,hp,fun p hp => (List.not_mem_nil hp).elim,.nil⟩
theorem SlR.txt {m : Mem} {v : Value} {l : List UInt8} (h : SlR m 1 v (l.map byteV) l.length) : bstr m v = some (.string ⟨⟨l⟩⟩) := by
  rcases h.2 with ⟨h0,h1⟩ | ⟨i,o,L,rfl,h2,h3,h4⟩
  · have : l = [] := List.length_eq_zero_iff.1 h0
    subst this
    rcases h1 with rfl | rfl <;> rfl
  · rw [Nat.mul_one] at h3 h4
    have hr : m.row i o l.length = some (l.map byteV) := by
      simp only [Mem.row,h2]
      rw [if_pos h3,h4]
    simp only [Ab.bstr,hr,bytesOf_mapN]
theorem Sep.ofOld (hp : Part L0 m) : Sep m (fun i => i < m.next) m [] := ⟨Keeps.refl _ m,fun _ h => h,fun i hi => Nat.lt_of_lt_of_le hi hp.1,hp,fun p hp => (List.not_mem_nil hp).elim,.nil⟩
theorem Sep.toOld (h : Sep m (fun i => i < m.next) m' l) : Old m m' := ⟨h.k.1,fun i hi => h.k.2 i hi hi⟩
theorem Sep.fresh (h : Sep m (fun i => i < m.next) m' l) (n : Nat) {ob : Option Nat} {E : Ent} (hn : l[n]? = some (ob,E)) : ∀ i,ob = some i → m.next ≤ i ∧ i < m'.next ∧ m'.get i = E := fun i hi => by
  have := h.ok _ (List.mem_of_getElem? hn) i hi
  exact ⟨Nat.not_lt.1 this.2.2,this.2.1,this.1⟩
theorem RdV.o {X : Nat → Prop} {sz n : Nat} {v : Value} {cs : List Value} (r : RdV X m sz v cs n) : RdV (fun i => i < m.next) m sz v cs n := ⟨r.sl,fun b hb => ⟨(r.bl b hb).1,(r.bl b hb).1⟩⟩
theorem RdV.old {X : Nat → Prop} {sz n : Nat} {v : Value} {cs : List Value} (r : RdV X m sz v cs n) (o : Old m m') : RdV X m' sz v cs n := r.keep o.keeps
theorem RdV.nil {X : Nat → Prop} {sz : Nat} : RdV X m sz (.slice none 0 0) [] 0 := ⟨⟨by simp,.inl ⟨rfl,.inl rfl⟩⟩,fun b hb => by cases hb⟩
section
variable {P : Program} {w0 : World} {ts : Fr} {R : Value → Mem → Prop}
theorem SK_stS (h : Sep m0 V m l) (q : Nat) {n i o : Nat} {p x : Operand} {cs cs' vs : List Value} {e : TypeId} (hq : l[q]? = some (some i,.own cs e)) (hp : ev ts p = .pointer (some ⟨i,o,none⟩)) (hv : cellsV (ev ts x) = vs) (h1 : o + n ≤ cs.length) (h2 : vs.length = n) (h3 : vs.all oneC = true)
    (hM : putAt cs o vs = cs') (hR : ∀ M,Sep m0 V M (l.set q (some i,.own cs' e)) → M.next = m.next → R undef M) : SK P w0 (.e (.st n p x)) ts m R :=
  SK_stK hp (h.get q hq) hv h1 h2 h3 hM (hR _ (h.set q hq _) rfl)
theorem SK_apS (h : Sep m0 V m l) (q : Nat) {e sz bytes n k : Nat} {ob : Option Nat} {cs ys : List Value} {x y : Operand} (hq : l[q]? = some (ob,.own cs e)) (hx : ev ts x = slV ob n sz) (hl0 : cs.length = n * sz) (hp : ob = none → n = 0) (hy : elemsV m sz (ev ts y) = some ys) (hk : lenV (ev ts y) = k)
    (h1 : ys.all oneC = true) (h2 : (n + k) * bytes ≤ 140737488355328) (h3 : n + k ≤ maxLen) (hl : ys.length = k * sz)
    (hR : ∀ ob' M,Sep m0 V M (l.set q (ob',.own (cs ++ ys) e)) → (ob' = none → n + k = 0) → m.next ≤ M.next → R (slV ob' (n + k) sz) M) : SK P w0 (.e (.app e sz bytes x y)) ts m R := by
  have hO := h.slO q hq hl0 hp
  by_cases hpos : 0 < k
  · exact SK_ap hO hx hy hk hpos h1 h2 h3 hl (hR _ _ (h.repl q hq _) (fun h => by cases h) (by simp [Mem.kill_nxt]))
  · have hk0 : k = 0 := by omega
    subst hk0
    have : ys = [] := by simpa using hl
    subst this
    have e1 : l.set q (ob,.own (cs ++ []) e) = l := by
      rw [List.append_nil]
      apply List.ext_getElem?
      intro j
      rw [List.getElem?_set]
      split
      · rename_i hj
        subst hj
        rw [hq]
        obtain ⟨hlt,_⟩ := List.getElem?_eq_some_iff.1 hq
        rw [if_pos hlt]
      · rfl
    exact SK_app0 hx hy hk (hR ob m (by rw [e1]; exact h) hp (Nat.le_refl _))
theorem SK_nwS (h : Sep m0 V m l) {e sz bytes k : Nat} {ys : List Value} {x y : Operand} (hx : ev ts x = .slice none 0 0) (hy : elemsV m sz (ev ts y) = some ys) (hk : lenV (ev ts y) = k)
    (h1 : ys.all oneC = true) (h2 : k * bytes ≤ 140737488355328) (h3 : k ≤ maxLen) (hl : ys.length = k * sz)
    (hR : ∀ ob M,Sep m0 V M ((ob,.own ys e) :: l) → (ob = none → k = 0) → m.next ≤ M.next → R (slV ob k sz) M) : SK P w0 (.e (.app e sz bytes x y)) ts m R := by
  refine SK_app_new hx hy hk h1 h2 h3 hl fun ob m' hO hn hb ho => hR ob m' (h.new ⟨hn,ho⟩ fun i hi => ?_) (fun hb => by subst hb; exact hO.2) hn
  subst hi
  exact ⟨hb i rfl,hO.lt,hO.2.1⟩
theorem SK_cvm {e : TypeId} {x : Operand} {i o n z : Nat} {cs : List Value} (hx : ev ts x = .slice (some ⟨i,o,none⟩) n z) (hm : m.get i = .own cs e) (hR : R (.slice (some ⟨i,o,none⟩) n z) m) : SK P w0 (.e (.cvm e x)) ts m R := by
  simp only [SK,dE,hx,hm,if_true]
  exact hR
theorem SK_alS (h : Sep m0 V m l) {z : List Value} {e : TypeId} (hR : ∀ b M,Sep m0 V M ((some b,.own z e) :: l) → b = m.next → M.next = m.next + 1 → R (.pointer (some ⟨b,0,none⟩)) M) : SK P w0 (.e (.al z e)) ts m R := hR _ _ (h.push _) rfl rfl
theorem SK_bxS (h : Sep m0 V m l) {x : Operand} {e : TypeId} {cs : List Value} (hv : cellsV (ev ts x) = cs) (hR : ∀ b M,Sep m0 V M ((some b,.own cs e) :: l) → b = m.next → M.next = m.next + 1 → R (.pointer (some ⟨b,0,none⟩)) M) : SK P w0 (.e (.bx e x)) ts m R := by
  subst hv
  exact hR _ _ (h.push _) rfl rfl
theorem SK_mkS (h : Sep m0 V m l) {e bytes n : Nat} {zero : Value} {x y : Operand} (hx : ev ts x = .int .i64 (n : Int)) (hy : ev ts y = .int .i64 (n : Int)) (hb : bytes * n ≤ 140737488355328) (hm : n ≤ maxLen) (hR : ∀ b M,Sep m0 V M ((some b,.own (List.replicate n zero) e) :: l) → b = m.next → M.next = m.next + 1 → R (.slice (some ⟨b,0,none⟩) n 1) M) : SK P w0 (.e (.mks e bytes zero x y)) ts m R := by
  simp only [SK,dE,hx,hy]
  rw [if_pos ⟨by omega,by omega,by omega,by omega⟩]
  simp only [Int.toNat_natCast]
  exact hR _ _ (h.push _) rfl rfl
theorem SK_bslS (h : Sep m0 V m l) {z : List Value} {e : TypeId} {sz len : Nat} {parts : List (Nat × Nat × Operand)} {cs : List Value} (hf : fiZ ts parts z = some cs) (hl : cs.length = len * sz) (hR : ∀ b M,Sep m0 V M ((some b,.own cs e) :: l) → b = m.next → M.next = m.next + 1 → R (.slice (some ⟨b,0,none⟩) len sz) M) : SK P w0 (.e (.bsl e sz len z parts)) ts m R := by
  rw [SK_bsl hf hl]
  exact hR _ _ (h.push _) rfl rfl
theorem SK_s2bS (h : Sep m0 V m l) {e : TypeId} {x : Operand} {s : List UInt8} (hx : ev ts x = .string ⟨⟨s⟩⟩) (hl : s.length ≤ 140737488355328) (hR : ∀ b M,Sep m0 V M ((some b,.own (s.map byteV) e) :: l) → b = m.next → M.next = m.next + 1 → R (.slice (some ⟨b,0,none⟩) s.length 1) M) : SK P w0 (.e (.s2b e x)) ts m R := by
  rw [SK_s2b hx hl]
  exact hR _ _ (h.push _) rfl rfl
end
end
end Go.Proofs.YtccjlggpiliilaaGreatDoor.Ab

set_option linter.unusedVariables false
set_option linter.unusedSimpArgs false
namespace Go.Proofs.YtccjlggpiliilaaGreatDoor.Ab
open Go Go.RowKit
set_option maxHeartbeats 4000000
set_option maxRecDepth 100000
def letterB (c : Int) : Bool := (decide (97 ≤ c) && decide (c ≤ 122)) || (decide (65 ≤ c) && decide (c ≤ 90))
def okc (k : Nat) (c : Int) : Bool := letterB c || (k != 0 && (c == 46 || c == 45 || c == 95 || (decide (48 ≤ c) && decide (c ≤ 57))))
def nameB (s : ByteArray) : Bool := ((List.range s.size).all fun k => okc k (byteAt s k)) && (decide (0 < s.size) && decide (s.size ≤ 32))
theorem c_Name {w0 : World} {m : Mem} {s : ByteArray} {Q : Value → Mem → Prop} (hl : s.size ≤ 9223372036854775807) (hq : Q (.bool (nameB s)) m) : AbC Tryz.prog w0 24 [.string s] m Q := by
  refine AbC_fn ok24 (by simp) ?_
  simp -implicitDefEqProofs (disch := first | assumption | (simp only [wnA]; done) | (simp only [wnA]; omega) | omega) [rc24,ro24,wkA,rtZ,sbZ,dC,ev,fiZ,pkZ,putAt,bnd,slD,gZ0,gZ1,dR_sl,Mem.cell,Mem.row,wmA]
  refine LoopW_of (fun k ts m' => ∃ j,j + k = s.size ∧ m' = m ∧ ts 0 = .string s ∧ ts 7 = .int .i64 (s.size : Nat) ∧ ts 8 = .int .i64 (j : Nat) ∧ (∀ i,i < j → okc i (byteAt s i) = true)) s.size ?_ ?_
  · exact ⟨0,by omega,rfl,by simp [frA_at],by simp,by simp,fun i hi => by omega⟩
  · rintro k ts m1 K ⟨j,hj,rfl,t0,t7,t8,hall⟩ hK
    simp -implicitDefEqProofs (disch := first | assumption | (simp only [wnA]; done) | (simp only [wnA]; omega) | omega) [rc24_1,wkA,rtZ,sbZ,dC,ev,fiZ,pkZ,putAt,bnd,slD,gZ0,gZ1,dR_sl,Mem.cell,Mem.row,wmA,t7,t8]
    by_cases hjl : j < s.size
    · obtain ⟨g1,g2⟩ := byteAt_get hjl
      have fin : okc j (byteAt s j) = true → ∀ ts' : Fr,ts' 0 = ts 0 → ts' 7 = ts 7 → ts' 8 = .int .i64 ((j + 1 : Nat) : Int) → K ts' m1 := fun ho ts' r0 r7 r8 =>
        hK (k - 1) ts' m1 (by omega) ⟨j + 1,by omega,rfl,by rw [r0,t0],by rw [r7,t7],r8,fun i hi => by
          by_cases hij : i = j
          · subst hij; exact ho
          · exact hall i (by omega)⟩
      have bad : okc j (byteAt s j) = false → Q (.bool false) m1 := fun ho => by
        have : nameB s = false := by
          simp only [nameB,Bool.and_eq_false_iff]
          left
          rw [List.all_eq_false]
          exact ⟨j,by simpa using hjl,by rw [ho]; decide⟩
        rw [← this]; exact hq
      simp -implicitDefEqProofs (disch := first | assumption | (simp only [wnA]; done) | (simp only [wnA]; omega) | omega) [hjl,rc24_0,wkA,rtZ,sbZ,dC,ev,fiZ,pkZ,putAt,bnd,slD,gZ0,gZ1,dR_sl,Mem.cell,Mem.row,wmA,t0,t8,g1]
      rw [g2] at fin bad
      generalize ((s[j]).toNat : Int) = c at *
      by_cases hj0 : j = 0
      · subst hj0
        have cls : (97 ≤ c ∧ c ≤ 122) ∨ (65 ≤ c ∧ c ≤ 90) ∨ (c < 65) ∨ (90 < c ∧ c < 97) ∨ 122 < c := by omega
        rcases cls with h | h | h | h | h
        all_goals simp -implicitDefEqProofs (disch := first | assumption | (simp only [wnA]; done) | (simp only [wnA]; omega) | omega) [leT,leF,ltT,ltF,beqT,beqF,bneT,bneF,wkA,rtZ,sbZ,dC,ev,fiZ,pkZ,putAt,bnd,slD,gZ0,gZ1,dR_sl,Mem.cell,Mem.row,wmA,t8,w64]
        all_goals first
          | exact fin (by simp -implicitDefEqProofs (disch := first | assumption | (simp only [wnA]; done) | (simp only [wnA]; omega) | omega) [okc,letterB,leT,leF,ltT,ltF,beqT,beqF]) _ (by simp) (by simp) (by simp)
          | exact bad (by simp -implicitDefEqProofs (disch := first | assumption | (simp only [wnA]; done) | (simp only [wnA]; omega) | omega) [okc,letterB,leT,leF,ltT,ltF,beqT,beqF])
      · have hj1 : ((j : Int) == 0) = false := by simpa using hj0
        have hj2 : (j != 0) = true := by simpa using hj0
        have cls : (97 ≤ c ∧ c ≤ 122) ∨ (65 ≤ c ∧ c ≤ 90) ∨ c < 45 ∨ c = 45 ∨ c = 46 ∨ c = 47 ∨ (48 ≤ c ∧ c ≤ 57) ∨ (57 < c ∧ c < 65) ∨ (90 < c ∧ c < 95) ∨ c = 95 ∨ c = 96 ∨ 122 < c := by omega
        rcases cls with h | h | h | h | h | h | h | h | h | h | h | h
        all_goals simp -implicitDefEqProofs (disch := first | assumption | (simp only [wnA]; done) | (simp only [wnA]; omega) | omega) [leT,leF,ltT,ltF,beqT,beqF,bneT,bneF,wkA,rtZ,sbZ,dC,ev,fiZ,pkZ,putAt,bnd,slD,gZ0,gZ1,dR_sl,Mem.cell,Mem.row,wmA,t8,hj1,w64]
        all_goals first
          | exact fin (by simp -implicitDefEqProofs (disch := first | assumption | (simp only [wnA]; done) | (simp only [wnA]; omega) | omega) [okc,letterB,leT,leF,ltT,ltF,beqT,beqF,hj2]) _ (by simp) (by simp) (by simp)
          | exact bad (by simp -implicitDefEqProofs (disch := first | assumption | (simp only [wnA]; done) | (simp only [wnA]; omega) | omega) [okc,letterB,leT,leF,ltT,ltF,beqT,beqF,hj2])
    · have hjj : j = s.size := by omega
      subst hjj
      have hn : nameB s = (decide (0 < s.size) && decide (s.size ≤ 32)) := by
        have : (List.range s.size).all (fun k => okc k (byteAt s k)) = true := by
          rw [List.all_eq_true]
          intro i hi
          exact hall i (by simpa using hi)
        simp only [nameB,this,Bool.true_and]
      rw [hn] at hq
      simp -implicitDefEqProofs (disch := first | assumption | (simp only [wnA]; done) | (simp only [wnA]; omega) | omega) [hjl,rc24_2,wkA,rtZ,sbZ,dC,ev,fiZ,pkZ,putAt,bnd,slD,gZ0,gZ1,dR_sl,Mem.cell,Mem.row,wmA,t0]
      by_cases h0 : 0 < s.size
      · simp only [h0,decide_true,Bool.true_and] at hq
        by_cases h32 : s.size ≤ 32
        · simp only [h32,decide_true] at hq
          have h33 : (s.size : Int) ≤ 32 := by omega
          simp -implicitDefEqProofs (disch := first | assumption | (simp only [wnA]; done) | (simp only [wnA]; omega) | omega) [h0,leT,wkA,rtZ,sbZ,dC,ev,fiZ,pkZ,putAt,bnd,slD,gZ0,gZ1,dR_sl,Mem.cell,Mem.row,wmA,t0,h32]
          exact hq
        · simp only [h32,decide_false] at hq
          simp -implicitDefEqProofs (disch := first | assumption | (simp only [wnA]; done) | (simp only [wnA]; omega) | omega) [h0,leF,wkA,rtZ,sbZ,dC,ev,fiZ,pkZ,putAt,bnd,slD,gZ0,gZ1,dR_sl,Mem.cell,Mem.row,wmA,t0,h32]
          exact hq
      · simp only [h0,decide_false,Bool.false_and] at hq
        simp -implicitDefEqProofs (disch := first | assumption | (simp only [wnA]; done) | (simp only [wnA]; omega) | omega) [h0,wkA,rtZ,sbZ,dC,ev,fiZ,pkZ,putAt,bnd,slD,gZ0,gZ1,dR_sl,Mem.cell,Mem.row,wmA,t0]
        exact hq
end Go.Proofs.YtccjlggpiliilaaGreatDoor.Ab

set_option linter.unusedVariables false
set_option linter.unusedSimpArgs false
namespace Go.Proofs.YtccjlggpiliilaaGreatDoor.Ab
open Go Go.RowKit
set_option maxHeartbeats 4000000
set_option maxRecDepth 100000
def Bld (base m : Mem) (i : Nat) (bs : List UInt8) : Prop := Old base m ∧ base.next ≤ i ∧ i < m.next ∧ ∃ pa ob,m.get i = .own [pa,slV ob bs.length 1] 233 ∧ (pa = .pointer none ∨ pa = .pointer (some ⟨i,0,none⟩)) ∧
  SlO m 5 1 ob (bs.map byteV) bs.length ∧ (bs = [] → ob = none) ∧ ∀ b,ob = some b → base.next ≤ b ∧ b ≠ i
theorem Bld.new {base m : Mem} (h : Old base m) : Bld base (m.push (.own [.pointer none,.slice none 0 0] 233)) m.next [] :=
  ⟨h.push _,h.1,by simp,.pointer none,none,by simp [slV],.inl rfl,⟨rfl,rfl⟩,fun _ => rfl,fun b hb => by cases hb⟩
theorem Bld.more {base m m1 : Mem} {i : Nat} {bs cs : List UInt8} {pa : Value} {ob : Option Nat} (h : Bld base m i bs) (hn : m1.next = m.next) (hi : m1.get i = .own [.pointer (some ⟨i,0,none⟩),slV ob bs.length 1] 233)
    (ho : ∀ k,k ≠ i → m1.get k = m.get k) (hob : ∀ b,ob = some b → base.next ≤ b ∧ b ≠ i) (hcs : cs ≠ []) :
    Bld base (((m1.kill ob).push (.own (bs.map byteV ++ cs.map byteV) 5)).set i (.own [.pointer (some ⟨i,0,none⟩),slV (some m1.next) (bs.length + cs.length) 1] 233)) i (bs ++ cs) := by
  obtain ⟨h1,h2,h3,pa',ob',h4,h5,h6,hz,h7⟩ := h
  have hold : Old base m1 := ⟨by rw [hn]; exact h1.1,fun k hk => by rw [ho k (by omega),h1.2 k hk]⟩
  refine ⟨((hold.kill fun b hb => (hob b hb).1).push _).set h2 _,h2,by simp [Mem.kill_nxt]; omega,_,some m1.next,by simp,.inr rfl,⟨by simp,?_⟩,fun hb => absurd (List.append_eq_nil_iff.1 hb).2 hcs,fun b hb => by cases hb; exact ⟨by rw [hn]; exact Nat.le_trans h2 (by omega),by omega⟩⟩
  refine ⟨?_,by simp [Mem.kill_nxt]⟩
  rw [Mem.set_other _ _ (by omega)]
  simp [Mem.push_get,Mem.kill_nxt]
end Go.Proofs.YtccjlggpiliilaaGreatDoor.Ab
