/- The law TargetAsleep, as its statement says it: what it reads is of the bulk that the statement names; the listed variables hold what the program's text lays. -/
import Derived.Test.YtiapjjgmmiifmaaGreatDoorKTl2
import Derived.Test.YtiapjjgmmiifmaaGreatDoorProg
import Derived.KernelRfl
import Derived.Shelf.Strings.Trim
import Derived.Shelf.Strconv.Itoa1
import Derived.Shelf.LaysM
import Derived.Shelf.Strconv.Itoa2
import Derived.Shelf.Strconv.Itoa3
import Derived.Shelf.LaysC
import Derived.Shelf.Strconv.ToError
import Derived.Shelf.Strconv.ToErrorRange
import Derived.Shelf.Strings.Search1
import Derived.Shelf.Strings.Search2
import Derived.Shelf.Strings.Search3
import Derived.Shelf.Strings.Count
import Derived.Shelf.Strings.Split
import Derived.Shelf.Strings.Explode
import Derived.Lib.AppendIntMem
import Derived.Lib.ItoaMem
import Derived.Lib.SplitLaws
import Derived.Lib.TrimByte
import Derived.Lib.IndexBytes
import Derived.Test.YtiapjjgmmiifmaaGreatDoorCards
import Derived.Test.YtiapjjgmmiifmaaGreatDoorTie
import Derived.WalkKit
import Derived.ProofKit
import Derived.OpenShut
import Derived.JoinedCond
import Derived.ChangeOld
import Derived.Deep.DeepHandedRow
import Derived.Deep.DeepWitnessRowRef
set_option maxHeartbeats 4000000
namespace Go.Proofs.YtiapjjgmmiifmaaGreatDoor.Ab
open Go Go.RowKit
abbrev zt (n : Nat) : Operand := .tmp n
abbrev zi (n : Int) : Operand := .const (.int .i64 n)
abbrev zr (n : Nat) (x : RO) : Sp := ⟨some n, none, .r x, []⟩
abbrev za (n : Nat) (x : Operand) : Sp := ⟨some n, none, .a x, []⟩
abbrev zf (n : Nat) (x : EO) : Sp := ⟨some n, none, .e x, []⟩
abbrev ze (x : EO) : Sp := ⟨none, none, .e x, []⟩
abbrev zg (n c : Nat) (b : Bool) (x : RO) : Sp := ⟨some n, some (c, b), .r x, []⟩
abbrev zc (n f : Nat) (l : List Operand) : Sp := ⟨some n, none, .c (.fn f l), []⟩
/-- The zero memory of a board. -/
noncomputable def zst : List Value := cellsV (Option.getD (TypeInfo.zero Tryz.t75) .nilIface)
def rc6_0 : RC := (.seq (.block 1 (.seq (.run [zr 26 (.mv (zt 9)), zc 27 22 [(zt 26)], zr 28 (.lenl (zt 27)), zr 29 (.bin .gtr (zt 28) (zi 0)), zr 30 (.mv (zt 29)), zg 31 30 false (.mv (zt 9)), ⟨(some 32), (some (30, false)), (.c (.fn 12 [(zt 31), (.const (.slice none 0 0))])), []⟩, zg 33 30 false (.lenl (zt 32)), zg 34 30 false (.bin .gtr (zt 33) (zi 0)), zr 35 (.pick (zt 30) (.const (.bool true)) (zt 34)), zr 36 (.mv (zt 35)), zg 37 36 false (.mv (zt 9)), ⟨(some 38), (some (36, false)), (.c (.fn 19 [(zt 37)])), []⟩, zr 39 (.pick (zt 36) (.const (.bool true)) (zt 38))])
  (.cond (zt 39)
  (.seq (.run [za 8 (.const (.bool false))])
  .ret)
  .skip)))
  (.run [zr 24 (.mv (zt 10)), zr 25 (.bin .add (zt 24) (zi 1)), za 10 (zt 25)]))
def rc6_1 : RC := (.seq (.seq (.run [zr 19 (.mv (zt 10)), zr 20 (.mv (zt 1)), zr 21 (.bin .rem (zt 20) (.const (.int .u8 20))), zr 22 (.cvi .i64 (zt 21)), zr 23 (.bin .lss (zt 19) (zt 22))])
  (.cond (zt 23)
  .skip
  (.exit 0)))
  rc6_0)
def rc6_2 : RC := (.seq (.block 3 (.seq (.run [zr 54 (.ia 1 (zt 50) (zt 52)), zr 55 (.ld (zt 54)), za 13 (zt 55)])
  (.seq (.run [zr 56 (.mv (zt 13)), zr 57 (.bin .neq (zt 56) (.const (.int .u8 13)))])
  (.cond (zt 57)
  (.run [zr 58 (.mv (zt 11)), zr 59 (.mv (zt 13)), zf 60 (.bsl 5 1 1 [(.int .u8 0)] [(0, 1, (zt 59))]), zr 61 (.b2s (zt 60)), zr 62 (.bin .add (zt 58) (zt 61)), za 11 (zt 62)])
  .skip))))
  (.run [zr 63 (.bin .add (zt 52) (zi 1)), zr 52 (.mv (zt 63))]))
def rc6_3 : RC := (.seq (.run [zr 53 (.bin .lss (zt 52) (zt 51))])
  (.seq (.cond (zt 53)
  .skip
  (.exit 2))
  rc6_2))
def rc6_4 : RC := (.seq (.run [zr 64 (.mv (zt 9)), zr 65 (.mv (zt 11)), zr 66 (.bin .add (zt 65) (.const (.string ⟨#[13]⟩))), zf 67 (.s2b 5 (zt 66)), zc 68 12 [(zt 64), (zt 67)], zr 69 (.b2s (zt 68)), za 14 (zt 69)])
  (.seq (.run [zr 70 (.mv (zt 14)), zr 71 (.bin .eql (zt 70) (.const (.string ⟨#[63, 13, 10, 61, 62, 32]⟩))), zr 72 (.mv (zt 71)), zg 73 72 true (.mv (zt 9)), ⟨(some 74), (some (72, true)), (.e (.bsl 5 1 1 [(.int .u8 0)] [(0, 1, (.const (.int .u8 13)))])), []⟩, ⟨(some 75), (some (72, true)), (.c (.fn 12 [(zt 73), (zt 74)])), []⟩, zg 76 72 true (.b2s (zt 75)), zg 77 72 true (.bin .eql (zt 76) (.const (.string ⟨#[13, 10, 61, 62, 32]⟩))), zr 78 (.pick (zt 72) (zt 77) (.const (.bool false))), zr 79 (.mv (zt 78)), zg 80 79 true (.mv (zt 9)), ⟨(some 81), (some (79, true)), (.c (.fn 15 [(zt 80)])), []⟩, zg 82 79 true (.lenl (zt 81)), zg 83 79 true (.bin .eql (zt 82) (zi 0)), zr 84 (.pick (zt 79) (zt 83) (.const (.bool false))), za 8 (zt 84)])
  .ret))
def rc6_5 : RC := (.seq (.run [za 11 (.const (.string ⟨#[63]⟩))])
  (.seq (.seq (.run [zr 50 (.mv (zt 3)), zr 51 (.lenl (zt 50)), zr 52 (.mv (zi 0))])
  (.block 2 (.loop rc6_3)))
  rc6_4))
def rc6_6 : RC := (.seq (.seq (.run [zr 40 (.mv (zt 9)), zr 41 (.mv (zt 2)), zf 42 (.bsl 5 1 1 [(.int .u8 0)] [(0, 1, (zt 41))]), zc 43 12 [(zt 40), (zt 42)], zr 44 (.b2s (zt 43)), zr 45 (.bin .neq (zt 44) (.const (.string ⟨#[13, 10, 61, 62, 32]⟩))), zr 46 (.mv (zt 45)), zg 47 46 false (.mv (zt 9)), ⟨(some 48), (some (46, false)), (.c (.fn 19 [(zt 47)])), []⟩, zr 49 (.pick (zt 46) (.const (.bool true)) (zt 48))])
  (.cond (zt 49)
  (.seq (.run [za 8 (.const (.bool false))])
  .ret)
  .skip))
  rc6_5)
def rc6_7 : RC := (.seq (.run [zr 17 (.ldn 2 (zt 4)), zc 18 10 [(zt 17)], za 9 (zt 18)])
  (.seq (.seq (.run [za 10 (zi 0)])
  (.block 0 (.loop rc6_1)))
  rc6_6))
def rc6 : RC := (.seq (.run [zf 4 (.bx 28 (zt 0)), za 8 (.const (.bool false))])
  (.seq (.seq (.run [zc 15 9 [], zr 16 (.not (zt 15))])
  (.cond (zt 16)
  (.seq (.run [za 8 (.const (.bool false))])
  .ret)
  .skip))
  rc6_7))
def ce6 : List (Nat × List Nat × List Nat) := []
def ro6 : List RO := [(.mv (zt 8))]
theorem ok6 : okFn Tryz.prog 6 85 ce6 = some (rc6, ro6) := by kernel_rfl
def rc9_0 : RC := (.seq (.run [zr 16 (.mv (zt 1)), zf 17 (.bsl 5 1 1 [(.int .u8 0)] [(0, 1, (.const (.int .u8 120)))]), zc 18 12 [(zt 16), (zt 17)], za 2 (zt 18)])
  (.seq (.run [zr 19 (.mv (zt 1)), zf 20 (.bsl 5 1 8 [(.int .u8 0), (.int .u8 0), (.int .u8 0), (.int .u8 0), (.int .u8 0), (.int .u8 0), (.int .u8 0), (.int .u8 0)] [(0, 1, (.const (.int .u8 115))), (1, 1, (.const (.int .u8 117))), (2, 1, (.const (.int .u8 109))), (3, 1, (.const (.int .u8 32))), (4, 1, (.const (.int .u8 48))), (5, 1, (.const (.int .u8 32))), (6, 1, (.const (.int .u8 51))), (7, 1, (.const (.int .u8 13)))]), zf 21 (.cvm 5 (zt 20)), zc 22 12 [(zt 19), (zt 21)], za 3 (zt 22)])
  (.seq (.run [zr 23 (.mv (zt 1)), zc 24 15 [(zt 23)], za 4 (zt 24)])
  (.seq (.run [zr 25 (.mv (zt 2)), zr 26 (.b2s (zt 25)), zr 27 (.bin .eql (zt 26) (.const (.string ⟨#[13, 10, 61, 62, 32]⟩))), zr 28 (.mv (zt 27)), zg 29 28 true (.mv (zt 4)), zg 30 28 true (.lenl (zt 29)), zg 31 28 true (.bin .eql (zt 30) (zi 1)), zr 32 (.pick (zt 28) (zt 31) (.const (.bool false))), zr 33 (.mv (zt 32)), zg 34 33 true (.mv (zt 4)), zg 35 33 true (.ia 3 (zt 34) (zi 0)), zg 36 33 true (.fa 1 (zt 35)), zg 37 33 true (.ld (zt 36)), zg 38 33 true (.bin .eql (zt 37) (zi 3)), zr 39 (.pick (zt 33) (zt 38) (.const (.bool false))), zr 40 (.mv (zt 39)), zg 41 40 true (.mv (zt 3)), zg 42 40 true (.b2s (zt 41)), zg 43 40 true (.mv (zt 4)), zg 44 40 true (.ia 3 (zt 43) (zi 0)), zg 45 40 true (.ldn 3 (zt 44)), ⟨(some 46), (some (40, true)), (.c (.fn 17 [(zt 45)])), [(42, (some (40, true)), .b2s (zt 41))]⟩, zg 47 40 true (.bin .add (zt 46) (.const (.string ⟨#[61, 62, 32]⟩))), zg 48 40 true (.bin .eql (zt 42) (zt 47)), zr 49 (.pick (zt 40) (zt 48) (.const (.bool false))), za 0 (zt 49)])
  .ret))))
def rc9 : RC := (.seq (.run [za 0 (.const (.bool false))])
  (.seq (.run [zr 5 (.bld [(.int .i64 0), (.int .i64 0)] [(0, 1, (zi 3)), (1, 1, (zi 5))]), zc 6 10 [(zt 5)], za 1 (zt 6)])
  (.seq (.seq (.run [zr 7 (.mv (zt 1)), zr 8 (.eq false .ptr (zt 7) (.const (.pointer none))), zr 9 (.mv (zt 8)), zg 10 9 false (.mv (zt 1)), zg 11 9 false (.nck (zt 10)), zg 12 9 false (.fa 0 (zt 11)), zg 13 9 false (.ld (zt 12)), zg 14 9 false (.eq false .ptr (zt 13) (.const (.pointer none))), zr 15 (.pick (zt 9) (.const (.bool true)) (zt 14))])
  (.cond (zt 15)
  (.seq (.run [za 0 (.const (.bool false))])
  .ret)
  .skip))
  rc9_0)))
def ce9 : List (Nat × List Nat × List Nat) := [(7, [0, 1, 2, 3, 4, 5, 6, 7, 8, 9, 10, 11, 12, 13, 14, 15, 16, 17, 18, 19, 20, 21, 22, 23, 24, 25], [0, 1, 3, 7, 15, 31, 63, 127, 255, 511, 1023, 2047, 4095, 8191, 16383, 32767, 65535, 131071, 65535, 327679, 851967, 1900543, 3997695, 8388607, 16777215, 33554431])]
def ro9 : List RO := [(.mv (zt 0))]
theorem ok9 : okFn Tryz.prog 9 50 ce9 = some (rc9, ro9) := by kernel_rfl
noncomputable def rc10 : RC := (.seq (.run [zf 1 (.bx 28 (zt 0)), za 2 (.const (.pointer none))])
  (.seq (.run [zr 3 (.bld zst []), zf 4 (.bx 75 (zt 3)), zr 5 (.ldn 2 (zt 1)), zr 6 (.bld [(.pointer none), (.int .i64 0), (.int .i64 0), (.bool false), (.slice none 0 0), .nilIface, (.int .i64 0), (.slice none 0 0)] [(0, 1, (zt 4)), (1, 2, (zt 5)), (3, 1, (.const (.bool true)))]), zf 7 (.bx 34 (zt 6)), za 2 (zt 7)])
  .ret))
noncomputable def ce10 : List (Nat × List Nat × List Nat) := []
noncomputable def ro10 : List RO := [(.mv (zt 2))]
theorem ok10 : okFn Tryz.prog 10 8 ce10 = some (rc10, ro10) := by kernel_rfl
def rc11_0 : RC := (.seq (.run [zr 12 (.mv (zt 0)), zr 13 (.nck (zt 12)), zr 14 (.fa 0 (zt 13)), zr 15 (.mv (zt 1)), zr 16 (.sla 16384 1 (zt 14) (some (zt 15)) none), zr 17 (.mv (zt 2)), zf 18 (.cpy 1 (zt 16) (zt 17))])
  (.seq (.run [za 6 (.const (.bool true))])
  .ret))
def rc11 : RC := (.seq (.run [za 6 (.const (.bool false))])
  (.seq (.seq (.run [zr 7 (.mv (zt 1)), zr 8 (.mv (zt 2)), zr 9 (.lenl (zt 8)), zc 10 28 [(zt 7), (zt 9)], zr 11 (.not (zt 10))])
  (.cond (zt 11)
  (.seq (.run [za 6 (.const (.bool false))])
  .ret)
  .skip))
  rc11_0))
def ce11 : List (Nat × List Nat × List Nat) := []
def ro11 : List RO := [(.mv (zt 6))]
theorem ok11 : okFn Tryz.prog 11 19 ce11 = some (rc11, ro11) := by kernel_rfl
def rc12_0 : RC := (.seq (.block 1 (.seq (.run [zr 25 (.mv (zt 23)), zr 26 (.ia 1 (zt 21) (zt 23)), zr 27 (.ld (zt 26)), za 6 (zt 25), za 7 (zt 27)])
  (.seq (.seq (.run [zr 28 (.mv (zt 0)), zr 29 (.nck (zt 28)), zr 30 (.fa 5 (zt 29)), zr 31 (.ld (zt 30)), zr 32 (.eq true (.iface []) (zt 31) (.const .nilIface))])
  (.cond (zt 32)
  (.seq (.run [zr 33 (.mv (zt 5)), zr 34 (.mv (zt 0)), zr 35 (.mv (zt 0)), zr 36 (.nck (zt 35)), zr 37 (.fa 5 (zt 36)), zr 38 (.ld (zt 37)), zr 39 (.mv (zt 1)), zr 40 (.mv (zt 6)), zr 41 (.sl 1 (zt 39) (some (zt 40)) none), zr 42 (.nck (zt 38)), zr 43 (.mv (zt 38)), ⟨(some 44), none, (.c (.inv (zt 43) "Put" [(zt 41)])), []⟩, zc 45 29 [(zt 34), (zt 44)], zf 46 (.app 5 1 1 (zt 33) (zt 45)), za 4 (zt 46)])
  .ret)
  .skip))
  (.run [zr 47 (.mv (zt 5)), zr 48 (.mv (zt 0)), zr 49 (.mv (zt 7)), zc 50 30 [(zt 48), (zt 49)], zf 51 (.app 5 1 1 (zt 47) (zt 50)), za 5 (zt 51)]))))
  (.run [zr 52 (.bin .add (zt 23) (zi 1)), zr 23 (.mv (zt 52))]))
def rc12_1 : RC := (.seq (.run [zr 24 (.bin .lss (zt 23) (zt 22))])
  (.seq (.cond (zt 24)
  .skip
  (.exit 0))
  rc12_0))
def rc12_2 : RC := (.seq (.run [zr 53 (.mv (zt 5)), za 4 (zt 53)])
  .ret)
def rc12_3 : RC := (.seq (.run [za 5 (.const (.slice none 0 0))])
  (.seq (.seq (.run [zr 21 (.mv (zt 1)), zr 22 (.lenl (zt 21)), zr 23 (.mv (zi 0))])
  (.block 0 (.loop rc12_1)))
  rc12_2))
def rc12 : RC := (.seq (.run [za 4 (.const (.slice none 0 0))])
  (.seq (.seq (.run [zr 8 (.mv (zt 0)), zr 9 (.nck (zt 8)), zr 10 (.fa 5 (zt 9)), zr 11 (.ld (zt 10)), zr 12 (.eq true (.iface []) (zt 11) (.const .nilIface))])
  (.cond (zt 12)
  (.seq (.run [zr 13 (.mv (zt 0)), zr 14 (.mv (zt 0)), zr 15 (.nck (zt 14)), zr 16 (.fa 5 (zt 15)), zr 17 (.ld (zt 16)), zr 18 (.mv (zt 1)), ⟨(some 19), none, (.c (.inv (zt 17) "Put" [(zt 18)])), []⟩, zc 20 29 [(zt 13), (zt 19)], za 4 (zt 20)])
  .ret)
  .skip))
  rc12_3))
def ce12 : List (Nat × List Nat × List Nat) := [(8, [0, 1, 2, 3, 4, 5, 6, 7, 8, 9, 10, 11, 12, 13, 14], [0, 0, 0, 4, 12, 28, 0, 0, 192, 60, 572, 2044, 4094, 8191, 16383])]
def ro12 : List RO := [(.mv (zt 4))]
theorem ok12 : okFn Tryz.prog 12 54 ce12 = some (rc12, ro12) := by kernel_rfl
def rc15 : RC := (.seq (.run [za 2 (.const (.slice none 0 0))])
  (.seq (.run [zr 3 (.mv (zt 0)), zr 4 (.nck (zt 3)), zr 5 (.fa 7 (zt 4)), zr 6 (.ld (zt 5)), zf 7 (.app 44 3 24 (.const (.slice none 0 0)) (zt 6)), za 2 (zt 7)])
  .ret))
def ce15 : List (Nat × List Nat × List Nat) := []
def ro15 : List RO := [(.mv (zt 2))]
theorem ok15 : okFn Tryz.prog 15 8 ce15 = some (rc15, ro15) := by kernel_rfl
def rc16 : RC := (.seq (.run [za 2 (.const (.int .u32 0))])
  (.seq (.run [zr 4 (.bld [(.int .u32 0), (.int .u32 0)] []), zf 5 (.bx 81 (zt 4)), za 3 (zt 5)])
  (.seq (.run [zr 6 (.mv (zt 3)), zr 7 (.mv (zt 0)), zc 8 32 [(zt 6), (zt 7)]])
  (.seq (.run [zr 9 (.mv (zt 3)), zc 10 33 [(zt 9)], za 2 (zt 10)])
  .ret))))
def ce16 : List (Nat × List Nat × List Nat) := []
def ro16 : List RO := [(.mv (zt 2))]
theorem ok16 : okFn Tryz.prog 16 11 ce16 = some (rc16, ro16) := by kernel_rfl
def rc17 : RC := (.seq (.run [zf 1 (.bx 44 (zt 0)), za 2 (.const (.string ⟨#[]⟩))])
  (.seq (.run [zr 3 (.fa 0 (zt 1)), zr 4 (.ld (zt 3)), zr 8 (.fa 1 (zt 1)), zr 9 (.ld (zt 8)), zr 13 (.fa 2 (zt 1)), zr 14 (.ld (zt 13)), zr 15 (.cvi .u64 (zt 14)), ⟨(some 5), none, (.c (.fn 31 [(zt 4), (zi 16)])), [(9, none, .ld (zt 8)), (14, none, .ld (zt 13))]⟩, zr 6 (.bin .add (.const (.string ⟨#[115, 117, 109, 32]⟩)) (zt 5)), zr 7 (.bin .add (zt 6) (.const (.string ⟨#[32]⟩))), ⟨(some 10), none, (.c (.fn 31 [(zt 9), (zi 16)])), [(14, none, .ld (zt 13))]⟩, zr 11 (.bin .add (zt 7) (zt 10)), zr 12 (.bin .add (zt 11) (.const (.string ⟨#[32]⟩))), zc 16 34 [(zt 15), (zi 16)], zr 17 (.bin .add (zt 12) (zt 16)), zr 18 (.bin .add (zt 17) (.const (.string ⟨#[13, 10]⟩))), za 2 (zt 18)])
  .ret))
def ce17 : List (Nat × List Nat × List Nat) := [(1, [0, 1, 5, 6, 10, 11, 12, 2, 3, 4, 7, 8, 9, 13, 14, 15, 16], [0, 1, 3, 7, 15, 0, 32, 103, 255, 511, 0, 1024, 3072, 7399, 16383, 32767, 65535])]
def ro17 : List RO := [(.mv (zt 2))]
theorem ok17 : okFn Tryz.prog 17 19 ce17 = some (rc17, ro17) := by kernel_rfl
def rc19 : RC := (.seq (.run [za 2 (.const (.bool false))])
  (.seq (.run [zr 3 (.mv (zt 0)), zr 4 (.nck (zt 3)), zr 5 (.fa 5 (zt 4)), zr 6 (.ld (zt 5)), zr 7 (.eq true (.iface []) (zt 6) (.const .nilIface)), za 2 (zt 7)])
  .ret))
def ce19 : List (Nat × List Nat × List Nat) := []
def ro19 : List RO := [(.mv (zt 2))]
theorem ok19 : okFn Tryz.prog 19 8 ce19 = some (rc19, ro19) := by kernel_rfl
def rc22_0 : RC := (.seq (.run [zr 8 (.mv (zt 0)), zr 9 (.mv (zt 0)), zr 10 (.nck (zt 9)), zr 11 (.fa 5 (zt 10)), zr 12 (.ld (zt 11)), ⟨(some 13), none, (.c (.inv (zt 12) "Tick" [])), []⟩, zc 14 29 [(zt 8), (zt 13)], za 2 (zt 14)])
  .ret)
def rc22 : RC := (.seq (.run [za 2 (.const (.slice none 0 0))])
  (.seq (.seq (.run [zr 3 (.mv (zt 0)), zr 4 (.nck (zt 3)), zr 5 (.fa 5 (zt 4)), zr 6 (.ld (zt 5)), zr 7 (.eq false (.iface []) (zt 6) (.const .nilIface))])
  (.cond (zt 7)
  (.seq (.run [za 2 (.const (.slice none 0 0))])
  .ret)
  .skip))
  rc22_0))
def ce22 : List (Nat × List Nat × List Nat) := []
def ro22 : List RO := [(.mv (zt 2))]
theorem ok22 : okFn Tryz.prog 22 15 ce22 = some (rc22, ro22) := by kernel_rfl
def rc28 : RC := (.seq (.run [za 4 (.const (.bool false))])
  (.seq (.run [zr 5 (.mv (zt 0)), zr 6 (.bin .geq (zt 5) (zi 0)), zr 7 (.mv (zt 6)), zg 8 7 true (.mv (zt 1)), zg 9 7 true (.bin .geq (zt 8) (zi 0)), zr 10 (.pick (zt 7) (zt 9) (.const (.bool false))), zr 11 (.mv (zt 10)), zg 12 11 true (.mv (zt 0)), zg 13 11 true (.bin .leq (zt 12) (zi 16384)), zr 14 (.pick (zt 11) (zt 13) (.const (.bool false))), zr 15 (.mv (zt 14)), zg 16 15 true (.mv (zt 1)), zg 17 15 true (.mv (zt 0)), zg 18 15 true (.bin .sub (zi 16384) (zt 17)), zg 19 15 true (.bin .leq (zt 16) (zt 18)), zr 20 (.pick (zt 15) (zt 19) (.const (.bool false))), za 4 (zt 20)])
  .ret))
def ce28 : List (Nat × List Nat × List Nat) := []
def ro28 : List RO := [(.mv (zt 4))]
theorem ok28 : okFn Tryz.prog 28 21 ce28 = some (rc28, ro28) := by kernel_rfl
def rc29_0 : RC := (.seq (.run [zr 38 (.mv (zt 0)), zr 39 (.nck (zt 38)), zr 40 (.fa 5 (zt 39)), ze (.st 1 (zt 40) (.const .nilIface))])
  (.seq (.run [zr 41 (.mv (zt 1)), zr 42 (.mv (zt 7)), zr 43 (.bin .add (zt 42) (.const (.string ⟨#[61, 62, 32]⟩))), zf 44 (.app 5 1 1 (zt 41) (zt 43)), za 4 (zt 44)])
  .ret))
def rc29_1 : RC := (.seq (.run [za 7 (.const (.string ⟨#[13, 10]⟩))])
  (.seq (.seq (.run [zr 19 (.mv (zt 6)), zr 20 (.eq true (.iface []) (zt 19) (.const .nilIface)), zr 21 (.mv (zt 20)), zg 22 21 false (.mv (zt 0)), zg 23 21 false (.nck (zt 22)), zg 24 21 false (.fa 0 (zt 23)), zg 25 21 false (.ld (zt 24)), zg 26 21 false (.mv (zt 0)), zg 27 21 false (.nck (zt 26)), zg 28 21 false (.fa 6 (zt 27)), zg 29 21 false (.ld (zt 28)), zg 30 21 false (.mv (zt 0)), zg 31 21 false (.nck (zt 30)), zg 32 21 false (.fa 5 (zt 31)), zg 33 21 false (.ld (zt 32)), ⟨(some 34), (some (21, false)), (.c (.inv (zt 33) "Data" [])), [(25, (some (21, false)), .ld (zt 24)), (29, (some (21, false)), .ld (zt 28))]⟩, ⟨(some 35), (some (21, false)), (.c (.fn 11 [(zt 25), (zt 29), (zt 34)])), []⟩, zg 36 21 false (.not (zt 35)), zr 37 (.pick (zt 21) (.const (.bool true)) (zt 36))])
  (.cond (zt 37)
  (.run [za 7 (.const (.string ⟨#[33, 13, 10]⟩))])
  .skip))
  rc29_0))
def rc29 : RC := (.seq (.run [za 4 (.const (.slice none 0 0))])
  (.seq (.run [zr 9 (.mv (zt 0)), zr 10 (.nck (zt 9)), zr 11 (.fa 5 (zt 10)), zr 12 (.ld (zt 11)), ⟨(some 13), none, (.c (.inv (zt 12) "Done" [])), []⟩, zr 8 (.mv (zt 13)), zr 14 (.ext 0 (zt 8)), zr 15 (.ext 1 (zt 8)), za 5 (zt 14), za 6 (zt 15)])
  (.seq (.seq (.run [zr 16 (.mv (zt 5)), zr 17 (.not (zt 16))])
  (.cond (zt 17)
  (.seq (.run [zr 18 (.mv (zt 1)), za 4 (zt 18)])
  .ret)
  .skip))
  rc29_1)))
def ce29 : List (Nat × List Nat × List Nat) := [(5, [0, 1, 2, 3, 4, 5, 6, 7, 8, 9, 10, 11, 12, 13, 14, 15, 16, 17, 18], [0, 1, 3, 7, 15, 31, 63, 7, 135, 391, 903, 7, 2055, 6151, 14343, 30727, 65535, 131071, 262143])]
def ro29 : List RO := [(.mv (zt 4))]
theorem ok29 : okFn Tryz.prog 29 45 ce29 = some (rc29, ro29) := by kernel_rfl
def rc30_0 : RC := (.seq (.run [za 4 (.const (.slice none 0 0))])
  .ret)
def rc30_1 : RC := (.seq (.seq (.run [zr 29 (.mv (zt 0)), zr 30 (.nck (zt 29)), zr 31 (.fa 4 (zt 30)), zr 32 (.ld (zt 31)), zr 33 (.lenl (zt 32)), zr 34 (.bin .lss (zt 33) (zi 80))])
  (.cond (zt 34)
  (.run [zr 35 (.mv (zt 0)), zr 36 (.mv (zt 0)), zr 37 (.nck (zt 36)), zr 38 (.fa 4 (zt 37)), zr 39 (.ld (zt 38)), zr 40 (.mv (zt 1)), zf 41 (.bsl 5 1 1 [(.int .u8 0)] [(0, 1, (zt 40))]), zf 42 (.app 5 1 1 (zt 39) (zt 41)), zr 43 (.nck (zt 35)), zr 44 (.fa 4 (zt 43)), ze (.st 1 (zt 44) (zt 42))])
  .skip))
  rc30_0)
def rc30_2 : RC := (.seq (.seq (.run [zr 15 (.mv (zt 1)), zr 16 (.bin .eql (zt 15) (.const (.int .u8 13)))])
  (.cond (zt 16)
  (.seq (.run [zr 17 (.mv (zt 0)), zr 18 (.nck (zt 17)), zr 19 (.fa 4 (zt 18)), zr 20 (.ld (zt 19)), zr 21 (.b2s (zt 20)), za 5 (zt 21)])
  (.seq (.run [zr 22 (.mv (zt 0)), zr 23 (.nck (zt 22)), zr 24 (.fa 4 (zt 23)), ze (.st 1 (zt 24) (.const (.slice none 0 0)))])
  (.seq (.run [zr 25 (.mv (zt 0)), zr 26 (.mv (zt 5)), zc 27 45 [(zt 25), (zt 26)], zf 28 (.s2b 5 (zt 27)), za 4 (zt 28)])
  .ret)))
  .skip))
  rc30_1)
def rc30 : RC := (.seq (.run [za 4 (.const (.slice none 0 0))])
  (.seq (.seq (.run [zr 6 (.mv (zt 0)), zr 7 (.nck (zt 6)), zr 8 (.fa 3 (zt 7)), zr 9 (.ld (zt 8))])
  (.cond (zt 9)
  (.seq (.run [zr 10 (.mv (zt 0)), zr 11 (.nck (zt 10)), zr 12 (.fa 3 (zt 11)), ze (.st 1 (zt 12) (.const (.bool false)))])
  (.seq (.run [zf 13 (.bsl 5 1 5 [(.int .u8 0), (.int .u8 0), (.int .u8 0), (.int .u8 0), (.int .u8 0)] [(0, 1, (.const (.int .u8 13))), (1, 1, (.const (.int .u8 10))), (2, 1, (.const (.int .u8 61))), (3, 1, (.const (.int .u8 62))), (4, 1, (.const (.int .u8 32)))]), zf 14 (.cvm 5 (zt 13)), za 4 (zt 14)])
  .ret))
  .skip))
  rc30_2))
def ce30 : List (Nat × List Nat × List Nat) := []
def ro30 : List RO := [(.mv (zt 4))]
theorem ok30 : okFn Tryz.prog 30 45 ce30 = some (rc30, ro30) := by kernel_rfl
def rc31 : RC := (.seq (.run [za 4 (.const (.string ⟨#[]⟩))])
  (.seq (.run [zr 5 (.mv (zt 0)), zr 6 (.mv (zt 1)), zc 7 46 [(zt 5), (zt 6)], za 4 (zt 7)])
  .ret))
def ce31 : List (Nat × List Nat × List Nat) := []
def ro31 : List RO := [(.mv (zt 4))]
theorem ok31 : okFn Tryz.prog 31 8 ce31 = some (rc31, ro31) := by kernel_rfl
def rc32_0 : RC := (.seq (.block 1 (.seq (.run [zr 10 (.ia 1 (zt 6) (zt 8)), zr 11 (.ld (zt 10)), za 5 (zt 11)])
  (.seq (.run [zr 12 (.mv (zt 0)), zr 13 (.mv (zt 0)), zr 14 (.nck (zt 13)), zr 15 (.fa 0 (zt 14)), zr 16 (.ld (zt 15)), zr 17 (.mv (zt 5)), zr 18 (.cvi .u32 (zt 17)), zr 19 (.bin .add (zt 16) (zt 18)), zr 20 (.bin .rem (zt 19) (.const (.int .u32 65521))), zr 21 (.nck (zt 12)), zr 22 (.fa 0 (zt 21)), ze (.st 1 (zt 22) (zt 20))])
  (.run [zr 23 (.mv (zt 0)), zr 24 (.mv (zt 0)), zr 25 (.nck (zt 24)), zr 26 (.fa 1 (zt 25)), zr 27 (.ld (zt 26)), zr 28 (.mv (zt 0)), zr 29 (.nck (zt 28)), zr 30 (.fa 0 (zt 29)), zr 31 (.ld (zt 30)), zr 32 (.bin .add (zt 27) (zt 31)), zr 33 (.bin .add (zt 32) (.const (.int .u32 1))), zr 34 (.bin .rem (zt 33) (.const (.int .u32 65521))), zr 35 (.nck (zt 23)), zr 36 (.fa 1 (zt 35)), ze (.st 1 (zt 36) (zt 34))]))))
  (.run [zr 37 (.bin .add (zt 8) (zi 1)), zr 8 (.mv (zt 37))]))
def rc32_1 : RC := (.seq (.run [zr 9 (.bin .lss (zt 8) (zt 7))])
  (.seq (.cond (zt 9)
  .skip
  (.exit 0))
  rc32_0))
def rc32 : RC := (.seq (.run [zr 6 (.mv (zt 1)), zr 7 (.lenl (zt 6)), zr 8 (.mv (zi 0))])
  (.block 0 (.loop rc32_1)))
def ce32 : List (Nat × List Nat × List Nat) := [(4, [0, 1, 2, 3, 4, 5, 6, 7, 8, 9, 10, 11, 12, 13, 14], [0, 0, 2, 6, 14, 0, 32, 96, 224, 510, 1022, 2046, 4095, 8191, 16383])]
def ro32 : List RO := []
theorem ok32 : okFn Tryz.prog 32 38 ce32 = some (rc32, ro32) := by kernel_rfl
def rc33 : RC := (.seq (.run [za 2 (.const (.int .u32 0))])
  (.seq (.run [zr 3 (.mv (zt 0)), zr 4 (.nck (zt 3)), zr 5 (.fa 1 (zt 4)), zr 6 (.ld (zt 5)), zr 7 (.bin .shl (zt 6) (.const (.int .u64 16))), zr 8 (.mv (zt 0)), zr 9 (.nck (zt 8)), zr 10 (.fa 0 (zt 9)), zr 11 (.ld (zt 10)), zr 12 (.bin .or (zt 7) (zt 11)), za 2 (zt 12)])
  .ret))
def ce33 : List (Nat × List Nat × List Nat) := [(1, [0, 1, 2, 3, 4, 5, 6, 7, 8, 9, 10], [0, 1, 3, 7, 15, 0, 32, 96, 224, 511, 1023])]
def ro33 : List RO := [(.mv (zt 2))]
theorem ok33 : okFn Tryz.prog 33 13 ce33 = some (rc33, ro33) := by kernel_rfl
def rc34 : RC := (.seq (.run [za 4 (.const (.string ⟨#[]⟩))])
  (.seq (.run [zr 5 (.mv (zt 0)), zr 6 (.mv (zt 1)), zc 7 47 [(zt 5), (zt 6)], za 4 (zt 7)])
  .ret))
def ce34 : List (Nat × List Nat × List Nat) := []
def ro34 : List RO := [(.mv (zt 4))]
theorem ok34 : okFn Tryz.prog 34 8 ce34 = some (rc34, ro34) := by kernel_rfl
def rc35 : RC := (.seq (.run [za 0 (.const (.slice none 0 0))])
  (.seq (.run [zf 1 (.bsl 9 1 4 [(.string ⟨#[]⟩), (.string ⟨#[]⟩), (.string ⟨#[]⟩), (.string ⟨#[]⟩)] [(0, 1, (.const (.string ⟨#[99, 104, 101, 99, 107]⟩))), (1, 1, (.const (.string ⟨#[99, 114, 99]⟩))), (2, 1, (.const (.string ⟨#[108, 97, 114, 103, 101]⟩))), (3, 1, (.const (.string ⟨#[98, 97, 116, 99, 104]⟩)))]), za 0 (zt 1)])
  .ret))
def ce35 : List (Nat × List Nat × List Nat) := []
def ro35 : List RO := [(.mv (zt 0))]
theorem ok35 : okFn Tryz.prog 35 2 ce35 = some (rc35, ro35) := by kernel_rfl
def rc45_0 : RC := (.seq (.run [za 4 (.const (.string ⟨#[63, 13, 10, 61, 62, 32]⟩))])
  .ret)
def rc45_1 : RC := (.seq (.seq (.run [zr 99 (.mv (zt 1)), zr 100 (.bin .eql (zt 99) (.const (.string ⟨#[]⟩)))])
  (.cond (zt 100)
  (.seq (.run [za 4 (.const (.string ⟨#[13, 10, 61, 62, 32]⟩))])
  .ret)
  .skip))
  rc45_0)
def rc45_2 : RC := (.seq (.seq (.run [zr 42 (.mv (zt 5)), zr 43 (.lenl (zt 42)), zr 44 (.bin .eql (zt 43) (zi 3)), zr 45 (.mv (zt 44)), zg 46 45 true (.mv (zt 5)), zg 47 45 true (.ia 1 (zt 46) (zi 0)), zg 48 45 true (.ld (zt 47)), zg 49 45 true (.bin .eql (zt 48) (.const (.string ⟨#[115, 117, 109]⟩))), zr 50 (.pick (zt 45) (zt 49) (.const (.bool false)))])
  (.cond (zt 50)
  (.seq (.run [zr 52 (.mv (zt 5)), zr 53 (.ia 1 (zt 52) (zi 1)), zr 54 (.ld (zt 53)), zc 55 63 [(zt 54)], zr 51 (.mv (zt 55)), zr 56 (.ext 0 (zt 51)), zr 57 (.ext 1 (zt 51)), za 8 (zt 56), za 9 (zt 57)])
  (.seq (.run [zr 59 (.mv (zt 5)), zr 60 (.ia 1 (zt 59) (zi 2)), zr 61 (.ld (zt 60)), zc 62 63 [(zt 61)], zr 58 (.mv (zt 62)), zr 63 (.ext 0 (zt 58)), zr 64 (.ext 1 (zt 58)), za 10 (zt 63), za 11 (zt 64)])
  (.seq (.run [zr 66 (.mv (zt 0)), zr 67 (.nck (zt 66)), zr 68 (.fa 0 (zt 67)), zr 69 (.ld (zt 68)), zr 70 (.mv (zt 8)), zr 71 (.mv (zt 10)), zc 72 65 [(zt 69), (zt 70), (zt 71)], zr 65 (.mv (zt 72)), zr 73 (.ext 0 (zt 65)), zr 74 (.ext 1 (zt 65)), za 12 (zt 73), za 13 (zt 74)])
  (.seq (.run [zr 75 (.mv (zt 9)), zr 76 (.mv (zt 75)), zg 77 76 true (.mv (zt 11)), zr 78 (.pick (zt 76) (zt 77) (.const (.bool false))), zr 79 (.mv (zt 78)), zg 80 79 true (.mv (zt 13)), zr 81 (.pick (zt 79) (zt 80) (.const (.bool false)))])
  (.cond (zt 81)
  (.seq (.run [zr 82 (.mv (zt 8)), zr 83 (.mv (zt 10)), zr 84 (.mv (zt 12)), zr 85 (.bld [(.int .i64 0), (.int .i64 0), (.int .u32 0)] [(0, 1, (zt 82)), (1, 1, (zt 83)), (2, 1, (zt 84))]), zf 14 (.al [(.int .i64 0), (.int .i64 0), (.int .u32 0)] 44), ze (.st 3 (zt 14) (zt 85))])
  (.seq (.run [zr 86 (.mv (zt 0)), zr 87 (.mv (zt 0)), zr 88 (.nck (zt 87)), zr 89 (.fa 7 (zt 88)), zr 90 (.ld (zt 89)), zr 91 (.ldn 3 (zt 14)), ⟨(some 92), none, (.e (.bsl 44 3 1 [(.int .i64 0), (.int .i64 0), (.int .u32 0)] [(0, 3, (zt 91))])), [(90, none, .ld (zt 89))]⟩, zf 93 (.app 44 3 24 (zt 90) (zt 92)), zr 94 (.nck (zt 86)), zr 95 (.fa 7 (zt 94)), ze (.st 1 (zt 95) (zt 93))])
  (.seq (.run [zr 96 (.ldn 3 (zt 14)), zc 97 17 [(zt 96)], zr 98 (.bin .add (zt 97) (.const (.string ⟨#[61, 62, 32]⟩))), za 4 (zt 98)])
  .ret)))
  .skip)))))
  .skip))
  rc45_1)
def rc45 : RC := (.seq (.run [za 4 (.const (.string ⟨#[]⟩))])
  (.seq (.run [zr 15 (.mv (zt 1)), zc 16 62 [(zt 15), (.const (.string ⟨#[32]⟩))], za 5 (zt 16)])
  (.seq (.seq (.run [zr 17 (.mv (zt 5)), zr 18 (.lenl (zt 17)), zr 19 (.bin .eql (zt 18) (zi 3)), zr 20 (.mv (zt 19)), zg 21 20 true (.mv (zt 5)), zg 22 20 true (.ia 1 (zt 21) (zi 0)), zg 23 20 true (.ld (zt 22)), zg 24 20 true (.bin .eql (zt 23) (.const (.string ⟨#[108, 111, 97, 100]⟩))), zr 25 (.pick (zt 20) (zt 24) (.const (.bool false)))])
  (.cond (zt 25)
  (.seq (.run [zr 27 (.mv (zt 5)), zr 28 (.ia 1 (zt 27) (zi 2)), zr 29 (.ld (zt 28)), zc 30 63 [(zt 29)], zr 26 (.mv (zt 30)), zr 31 (.ext 0 (zt 26)), zr 32 (.ext 1 (zt 26)), za 6 (zt 31), za 7 (zt 32)])
  (.seq (.run [zr 33 (.mv (zt 7)), zr 34 (.mv (zt 33)), zg 35 34 true (.mv (zt 0)), zg 36 34 true (.mv (zt 5)), zg 37 34 true (.ia 1 (zt 36) (zi 1)), zg 38 34 true (.ld (zt 37)), zg 39 34 true (.mv (zt 6)), ⟨(some 40), (some (34, true)), (.c (.fn 64 [(zt 35), (zt 38), (zt 39)])), []⟩, zr 41 (.pick (zt 34) (zt 40) (.const (.bool false)))])
  (.cond (zt 41)
  (.seq (.run [za 4 (.const (.string ⟨#[]⟩))])
  .ret)
  .skip)))
  .skip))
  rc45_2)))
def ce45 : List (Nat × List Nat × List Nat) := [(12, [0, 1, 2, 3, 4, 5, 6, 7, 8, 9, 10], [0, 0, 2, 6, 14, 0, 32, 126, 255, 511, 1023])]
def ro45 : List RO := [(.mv (zt 4))]
theorem ok45 : okFn Tryz.prog 45 101 ce45 = some (rc45, ro45) := by kernel_rfl
def rc46_0 : RC := (.seq (.run [zr 40 (.mv (zt 7)), zr 41 (.bin .add (zi 1) (zt 40)), zr 42 (.sla 24 1 (zt 5) (some (zi 1)) (some (zt 41))), zr 43 (.b2s (zt 42)), za 4 (zt 43)])
  .ret)
def rc46_1 : RC := (.seq (.run [zr 26 (.mv (zt 6)), zc 27 67 [(zt 26)], za 7 (zt 27)])
  (.seq (.run [zr 28 (.mv (zt 7)), zr 29 (.bin .add (zi 1) (zt 28)), zr 30 (.sla 24 1 (zt 5) (some (zi 1)) (some (zt 29))), zr 31 (.mv (zt 6)), zc 32 68 [(zt 30), (zt 31)]])
  (.seq (.seq (.run [zr 33 (.mv (zt 0)), zr 34 (.bin .lss (zt 33) (zi 0))])
  (.cond (zt 34)
  (.seq (.run [zr 35 (.iaa 24 1 (zt 5) (zi 0)), ze (.st 1 (zt 35) (.const (.int .u8 45)))])
  (.seq (.run [zr 36 (.mv (zt 7)), zr 37 (.bin .add (zi 1) (zt 36)), zr 38 (.sla 24 1 (zt 5) none (some (zt 37))), zr 39 (.b2s (zt 38)), za 4 (zt 39)])
  .ret))
  .skip))
  rc46_0)))
def rc46_2 : RC := (.seq (.run [zf 5 (.al [(.int .u8 0), (.int .u8 0), (.int .u8 0), (.int .u8 0), (.int .u8 0), (.int .u8 0), (.int .u8 0), (.int .u8 0), (.int .u8 0), (.int .u8 0), (.int .u8 0), (.int .u8 0), (.int .u8 0), (.int .u8 0), (.int .u8 0), (.int .u8 0), (.int .u8 0), (.int .u8 0), (.int .u8 0), (.int .u8 0), (.int .u8 0), (.int .u8 0), (.int .u8 0), (.int .u8 0)] 123)])
  (.seq (.run [zr 20 (.mv (zt 0)), zr 21 (.cvi .u64 (zt 20)), za 6 (zt 21)])
  (.seq (.seq (.run [zr 22 (.mv (zt 0)), zr 23 (.bin .lss (zt 22) (zi 0))])
  (.cond (zt 23)
  (.run [zr 24 (.mv (zt 6)), zr 25 (.neg (zt 24)), za 6 (zt 25)])
  .skip))
  rc46_1)))
def rc46_3 : RC := (.seq (.run [zr 45 (.mv (zt 0)), zr 46 (.cvi .u64 (zt 45)), zr 47 (.mv (zt 1)), zr 48 (.mv (zt 0)), zr 49 (.bin .lss (zt 48) (zi 0)), zc 50 69 [(.const (.slice none 0 0)), (zt 46), (zt 47), (zt 49), (.const (.bool false))], zr 44 (.mv (zt 50)), zr 51 (.ext 0 (zt 44)), zr 52 (.ext 1 (zt 44)), za 8 (zt 51), za 9 (zt 52)])
  (.seq (.run [zr 53 (.mv (zt 9)), za 4 (zt 53)])
  .ret))
def rc46 : RC := (.seq (.run [za 4 (.const (.string ⟨#[]⟩))])
  (.seq (.seq (.run [zr 10 (.mv (zt 1)), zr 11 (.bin .eql (zt 10) (zi 10))])
  (.cond (zt 11)
  (.seq (.seq (.run [zr 12 (.mv (zt 0)), zr 13 (.bin .leq (zi 0) (zt 12)), zr 14 (.mv (zt 13)), zg 15 14 true (.mv (zt 0)), zg 16 14 true (.bin .lss (zt 15) (zi 100)), zr 17 (.pick (zt 14) (zt 16) (.const (.bool false)))])
  (.cond (zt 17)
  (.seq (.run [zr 18 (.mv (zt 0)), zc 19 66 [(zt 18)], za 4 (zt 19)])
  .ret)
  .skip))
  rc46_2)
  .skip))
  rc46_3))
def ce46 : List (Nat × List Nat × List Nat) := []
def ro46 : List RO := [(.mv (zt 4))]
theorem ok46 : okFn Tryz.prog 46 54 ce46 = some (rc46, ro46) := by kernel_rfl
def rc47_0 : RC := (.seq (.run [zf 5 (.al [(.int .u8 0), (.int .u8 0), (.int .u8 0), (.int .u8 0), (.int .u8 0), (.int .u8 0), (.int .u8 0), (.int .u8 0), (.int .u8 0), (.int .u8 0), (.int .u8 0), (.int .u8 0), (.int .u8 0), (.int .u8 0), (.int .u8 0), (.int .u8 0), (.int .u8 0), (.int .u8 0), (.int .u8 0), (.int .u8 0), (.int .u8 0), (.int .u8 0), (.int .u8 0), (.int .u8 0)] 123)])
  (.seq (.run [zr 16 (.mv (zt 0)), zc 17 67 [(zt 16)], za 6 (zt 17)])
  (.seq (.run [zr 18 (.mv (zt 6)), zr 19 (.sla 24 1 (zt 5) none (some (zt 18))), zr 20 (.mv (zt 0)), zc 21 68 [(zt 19), (zt 20)]])
  (.seq (.run [zr 22 (.mv (zt 6)), zr 23 (.sla 24 1 (zt 5) none (some (zt 22))), zr 24 (.b2s (zt 23)), za 4 (zt 24)])
  .ret))))
def rc47_1 : RC := (.seq (.run [zr 26 (.mv (zt 0)), zr 27 (.mv (zt 1)), zc 28 69 [(.const (.slice none 0 0)), (zt 26), (zt 27), (.const (.bool false)), (.const (.bool false))], zr 25 (.mv (zt 28)), zr 29 (.ext 0 (zt 25)), zr 30 (.ext 1 (zt 25)), za 7 (zt 29), za 8 (zt 30)])
  (.seq (.run [zr 31 (.mv (zt 8)), za 4 (zt 31)])
  .ret))
def rc47 : RC := (.seq (.run [za 4 (.const (.string ⟨#[]⟩))])
  (.seq (.seq (.run [zr 9 (.mv (zt 1)), zr 10 (.bin .eql (zt 9) (zi 10))])
  (.cond (zt 10)
  (.seq (.seq (.run [zr 11 (.mv (zt 0)), zr 12 (.bin .lss (zt 11) (.const (.int .u64 100)))])
  (.cond (zt 12)
  (.seq (.run [zr 13 (.mv (zt 0)), zr 14 (.cvi .i64 (zt 13)), zc 15 66 [(zt 14)], za 4 (zt 15)])
  .ret)
  .skip))
  rc47_0)
  .skip))
  rc47_1))
def ce47 : List (Nat × List Nat × List Nat) := []
def ro47 : List RO := [(.mv (zt 4))]
theorem ok47 : okFn Tryz.prog 47 32 ce47 = some (rc47, ro47) := by kernel_rfl
def rc60 : RC := (.seq (.run [zf 1 (.bx 28 (zt 0)), za 2 (.const (.pointer none))])
  (.seq (.run [zr 3 (.ldn 2 (zt 1)), zr 4 (.ldn 2 (zt 1)), ⟨(some 5), none, (.c (.fn 61 [(zt 4), (.const (.int .u8 0)), (.const (.bool true)), (.const (.bool false)), (zi 1)])), [(3, none, .ldn 2 (zt 1))]⟩, zr 6 (.bld [(.int .i64 0), (.int .i64 0), (.pointer none), (.int .i64 0), (.string ⟨#[]⟩), (.int .i64 0), (.int .i64 0), (.int .i64 0), (.slice none 0 0), (.bool false), .nilIface] [(0, 2, (zt 3)), (2, 1, (zt 5))]), zf 7 (.bx 104 (zt 6)), za 2 (zt 7)])
  .ret))
def ce60 : List (Nat × List Nat × List Nat) := [(1, [0, 1, 2, 3, 4, 5], [0, 0, 2, 7, 15, 31])]
def ro60 : List RO := [(.mv (zt 2))]
theorem ok60 : okFn Tryz.prog 60 8 ce60 = some (rc60, ro60) := by kernel_rfl
def rc61 : RC := (.seq (.run [zf 5 (.bx 28 (zt 0)), za 10 (.const (.pointer none))])
  (.seq (.run [zr 13 (.fa 1 (zt 5)), zr 14 (.ld (zt 13)), zr 15 (.mn (zt 14) (zi 99)), zr 16 (.mx (zi 1) (zt 15)), zr 17 (.fa 0 (zt 5)), zr 18 (.ld (zt 17)), zr 19 (.mn (zt 18) (zi 9)), zr 20 (.mx (zi 1) (zt 19)), ⟨(some 11), none, (.a (zt 16)), [(18, none, .ld (zt 17))]⟩, za 12 (zt 20)])
  (.seq (.run [zr 21 (.mv (zt 2)), zr 22 (.mv (zt 11)), zr 23 (.mv (zt 12)), zr 24 (.mv (zt 1)), zr 25 (.mv (zt 3)), zr 26 (.mv (zt 4)), zr 27 (.mx (zi 1) (zt 26)), zr 28 (.bld [(.bool false), (.int .i64 0), (.int .i64 0), (.int .i64 0), (.int .u8 0), (.bool false), (.bool false), (.slice none 0 0), (.slice none 0 0), (.int .i64 0), (.int .i64 0), (.bool false), .nilIface] [(0, 1, (zt 21)), (1, 1, (zt 22)), (2, 1, (zt 23)), (3, 1, (zi 1)), (4, 1, (zt 24)), (6, 1, (zt 25)), (10, 1, (zt 27))]), zf 29 (.bx 106 (zt 28)), za 10 (zt 29)])
  .ret)))
def ce61 : List (Nat × List Nat × List Nat) := [(1, [0, 1, 2, 3, 4, 5, 6, 7, 8, 9], [0, 1, 3, 7, 0, 16, 48, 112, 15, 511])]
def ro61 : List RO := [(.mv (zt 10))]
theorem ok61 : okFn Tryz.prog 61 30 ce61 = some (rc61, ro61) := by kernel_rfl
def rc62 : RC := (.seq (.run [za 4 (.const (.slice none 0 0))])
  (.seq (.run [zr 5 (.mv (zt 0)), zr 6 (.mv (zt 1)), zc 7 76 [(zt 5), (zt 6), (zi 0), (zi (-1))], za 4 (zt 7)])
  .ret))
def ce62 : List (Nat × List Nat × List Nat) := []
def ro62 : List RO := [(.mv (zt 4))]
theorem ok62 : okFn Tryz.prog 62 8 ce62 = some (rc62, ro62) := by kernel_rfl
def rc63 : RC := (.seq (.run [za 2 (zi 0), za 3 (.const (.bool false))])
  (.seq (.run [zr 7 (.mv (zt 0)), zc 8 77 [(zt 7), (zi 16), (zi 32)], zr 6 (.mv (zt 8)), zr 9 (.ext 0 (zt 6)), zr 10 (.ext 1 (zt 6)), za 4 (zt 9), za 5 (zt 10)])
  (.seq (.run [zr 11 (.mv (zt 4)), zr 12 (.cvi .i64 (zt 11)), zr 13 (.mv (zt 5)), zr 14 (.eq false (.iface []) (zt 13) (.const .nilIface)), zr 15 (.mv (zt 14)), zg 16 15 true (.mv (zt 4)), ⟨(some 17), (some (15, true)), (.c (.fn 34 [(zt 16), (zi 16)])), []⟩, zg 18 15 true (.mv (zt 0)), zg 19 15 true (.bin .eql (zt 17) (zt 18)), zr 20 (.pick (zt 15) (zt 19) (.const (.bool false))), za 2 (zt 12), za 3 (zt 20)])
  .ret)))
def ce63 : List (Nat × List Nat × List Nat) := []
def ro63 : List RO := [(.mv (zt 2)), (.mv (zt 3))]
theorem ok63 : okFn Tryz.prog 63 21 ce63 = some (rc63, ro63) := by kernel_rfl
def rc64_0 : RC := (.seq (.run [za 6 (.const (.bool true))])
  .ret)
def rc64_1 : RC := (.seq (.run [zr 19 (.mv (zt 0)), zr 20 (.mv (zt 2)), zr 21 (.nck (zt 19)), zr 22 (.fa 6 (zt 21)), ze (.st 1 (zt 22) (zt 20))])
  (.seq (.seq (.run [zr 23 (.mv (zt 7)), zr 24 (.bin .eql (zt 23) (zi 3))])
  (.cond (zt 24)
  (.run [zr 25 (.mv (zt 0)), zr 26 (.mv (zt 0)), zr 27 (.nck (zt 26)), zr 28 (.fa 1 (zt 27)), zr 29 (.ldn 2 (zt 28)), zc 30 60 [(zt 29)], zr 31 (.mki 92 (zt 30)), zr 32 (.nck (zt 25)), zr 33 (.fa 5 (zt 32)), ze (.st 1 (zt 33) (zt 31))])
  (.run [zr 34 (.mv (zt 0)), zr 35 (.mv (zt 0)), zr 36 (.nck (zt 35)), zr 37 (.fa 1 (zt 36)), zr 38 (.ldn 2 (zt 37)), zr 39 (.mv (zt 7)), zr 40 (.bin .neq (zt 39) (zi 0)), zc 41 61 [(zt 38), (.const (.int .u8 1)), (zt 40), (.const (.bool true)), (zi 1)], zr 42 (.mki 91 (zt 41)), zr 43 (.nck (zt 34)), zr 44 (.fa 5 (zt 43)), ze (.st 1 (zt 44) (zt 42))])))
  rc64_0))
def rc64_2 : RC := (.seq (.block 1 (.seq (.run [zr 13 (.mv (zt 11)), zr 14 (.ia 1 (zt 9) (zt 11)), zr 15 (.ld (zt 14)), za 7 (zt 13), za 8 (zt 15)])
  (.seq (.seq (.run [zr 16 (.mv (zt 8)), zr 17 (.mv (zt 1)), zr 18 (.bin .neq (zt 16) (zt 17))])
  (.cond (zt 18)
  (.exit 1)
  .skip))
  rc64_1)))
  (.run [zr 45 (.bin .add (zt 11) (zi 1)), zr 11 (.mv (zt 45))]))
def rc64_3 : RC := (.seq (.run [zr 12 (.bin .lss (zt 11) (zt 10))])
  (.seq (.cond (zt 12)
  .skip
  (.exit 0))
  rc64_2))
def rc64_4 : RC := (.seq (.run [za 6 (.const (.bool false))])
  .ret)
def rc64 : RC := (.seq (.run [za 6 (.const (.bool false))])
  (.seq (.seq (.run [zc 9 35 [], zr 10 (.lenl (zt 9)), zr 11 (.mv (zi 0))])
  (.block 0 (.loop rc64_3)))
  rc64_4))
def ce64 : List (Nat × List Nat × List Nat) := []
def ro64 : List RO := [(.mv (zt 6))]
theorem ok64 : okFn Tryz.prog 64 46 ce64 = some (rc64, ro64) := by kernel_rfl
def rc65_0 : RC := (.seq (.run [zr 12 (.mv (zt 0)), zr 13 (.nck (zt 12)), zr 14 (.fa 0 (zt 13)), zr 15 (.mv (zt 1)), zr 16 (.mv (zt 1)), zr 17 (.mv (zt 2)), zr 18 (.bin .add (zt 16) (zt 17)), zr 19 (.sla 16384 1 (zt 14) (some (zt 15)) (some (zt 18))), zc 20 16 [(zt 19)], za 6 (zt 20), za 7 (.const (.bool true))])
  .ret)
def rc65 : RC := (.seq (.run [za 6 (.const (.int .u32 0)), za 7 (.const (.bool false))])
  (.seq (.seq (.run [zr 8 (.mv (zt 1)), zr 9 (.mv (zt 2)), zc 10 28 [(zt 8), (zt 9)], zr 11 (.not (zt 10))])
  (.cond (zt 11)
  (.seq (.run [za 6 (.const (.int .u32 0)), za 7 (.const (.bool false))])
  .ret)
  .skip))
  rc65_0))
def ce65 : List (Nat × List Nat × List Nat) := []
def ro65 : List RO := [(.mv (zt 6)), (.mv (zt 7))]
theorem ok65 : okFn Tryz.prog 65 21 ce65 = some (rc65, ro65) := by kernel_rfl
def rc66_0 : RC := (.seq (.run [zr 9 (.mv (zt 0)), zr 10 (.bin .mul (zt 9) (zi 2)), zr 11 (.mv (zt 0)), zr 12 (.bin .mul (zt 11) (zi 2)), zr 13 (.bin .add (zt 12) (zi 2)), zr 14 (.sls (.const (.string ⟨#[48, 48, 48, 49, 48, 50, 48, 51, 48, 52, 48, 53, 48, 54, 48, 55, 48, 56, 48, 57, 49, 48, 49, 49, 49, 50, 49, 51, 49, 52, 49, 53, 49, 54, 49, 55, 49, 56, 49, 57, 50, 48, 50, 49, 50, 50, 50, 51, 50, 52, 50, 53, 50, 54, 50, 55, 50, 56, 50, 57, 51, 48, 51, 49, 51, 50, 51, 51, 51, 52, 51, 53, 51, 54, 51, 55, 51, 56, 51, 57, 52, 48, 52, 49, 52, 50, 52, 51, 52, 52, 52, 53, 52, 54, 52, 55, 52, 56, 52, 57, 53, 48, 53, 49, 53, 50, 53, 51, 53, 52, 53, 53, 53, 54, 53, 55, 53, 56, 53, 57, 54, 48, 54, 49, 54, 50, 54, 51, 54, 52, 54, 53, 54, 54, 54, 55, 54, 56, 54, 57, 55, 48, 55, 49, 55, 50, 55, 51, 55, 52, 55, 53, 55, 54, 55, 55, 55, 56, 55, 57, 56, 48, 56, 49, 56, 50, 56, 51, 56, 52, 56, 53, 56, 54, 56, 55, 56, 56, 56, 57, 57, 48, 57, 49, 57, 50, 57, 51, 57, 52, 57, 53, 57, 54, 57, 55, 57, 56, 57, 57]⟩)) (some (zt 10)) (some (zt 13))), za 2 (zt 14)])
  .ret)
def rc66 : RC := (.seq (.run [za 2 (.const (.string ⟨#[]⟩))])
  (.seq (.seq (.run [zr 3 (.mv (zt 0)), zr 4 (.bin .lss (zt 3) (zi 10))])
  (.cond (zt 4)
  (.seq (.run [zr 5 (.mv (zt 0)), zr 6 (.mv (zt 0)), zr 7 (.bin .add (zt 6) (zi 1)), zr 8 (.sls (.const (.string ⟨#[48, 49, 50, 51, 52, 53, 54, 55, 56, 57, 97, 98, 99, 100, 101, 102, 103, 104, 105, 106, 107, 108, 109, 110, 111, 112, 113, 114, 115, 116, 117, 118, 119, 120, 121, 122]⟩)) (some (zt 5)) (some (zt 7))), za 2 (zt 8)])
  .ret)
  .skip))
  rc66_0))
def ce66 : List (Nat × List Nat × List Nat) := []
def ro66 : List RO := [(.mv (zt 2))]
theorem ok66 : okFn Tryz.prog 66 15 ce66 = some (rc66, ro66) := by kernel_rfl
def rc67 : RC := (.seq (.run [za 2 (zi 0)])
  (.seq (.run [zr 4 (.mv (zt 0)), zc 5 79 [(zt 4)], zc 6 78 [(zt 5)], za 3 (zt 6)])
  (.seq (.run [zr 7 (.mv (zt 3)), zr 8 (.mv (zt 0)), zr 9 (.mv (zt 3)), zr 10 (.iaa 20 1 (.global 0) (zt 9)), zr 11 (.ld (zt 10)), zr 12 (.bin .geq (zt 8) (zt 11)), zc 13 80 [(zt 12)], zr 14 (.bin .add (zt 7) (zt 13)), za 2 (zt 14)])
  .ret)))
def ce67 : List (Nat × List Nat × List Nat) := []
def ro67 : List RO := [(.mv (zt 2))]
theorem ok67 : okFn Tryz.prog 67 15 ce67 = some (rc67, ro67) := by kernel_rfl
def rc68_0 : RC := (.block 1 (.seq (.run [zr 21 (.mv (zt 1)), zr 22 (.bin .rem (zt 21) (.const (.int .u64 100000000))), zr 23 (.cvi .u32 (zt 22)), za 5 (zt 23)])
  (.seq (.run [zr 24 (.mv (zt 1)), zr 25 (.bin .quo (zt 24) (.const (.int .u64 100000000))), za 1 (zt 25)])
  (.seq (.run [zr 26 (.mv (zt 5)), zr 27 (.bin .quo (zt 26) (.const (.int .u32 10000))), zr 28 (.mv (zt 5)), zr 29 (.bin .rem (zt 28) (.const (.int .u32 10000))), za 6 (zt 27), za 7 (zt 29)])
  (.seq (.run [zr 30 (.mv (zt 7)), zr 31 (.bin .quo (zt 30) (.const (.int .u32 100))), zr 32 (.bin .mul (zt 31) (.const (.int .u32 2))), zr 33 (.mv (zt 7)), zr 34 (.bin .rem (zt 33) (.const (.int .u32 100))), zr 35 (.bin .mul (zt 34) (.const (.int .u32 2))), za 8 (zt 32), za 9 (zt 35)])
  (.seq (.run [zr 36 (.mv (zt 6)), zr 37 (.bin .quo (zt 36) (.const (.int .u32 100))), zr 38 (.bin .mul (zt 37) (.const (.int .u32 2))), zr 39 (.mv (zt 6)), zr 40 (.bin .rem (zt 39) (.const (.int .u32 100))), zr 41 (.bin .mul (zt 40) (.const (.int .u32 2))), za 10 (zt 38), za 11 (zt 41)])
  (.seq (.run [zr 42 (.mv (zt 0)), zr 43 (.mv (zt 4)), zr 44 (.bin .sub (zt 43) (zi 1)), zr 45 (.mv (zt 0)), zr 46 (.mv (zt 4)), zr 47 (.bin .sub (zt 46) (zi 2)), zr 48 (.mv (zt 9)), zr 49 (.bin .add (zt 48) (.const (.int .u32 1))), zr 50 (.ixs (.const (.string ⟨#[48, 48, 48, 49, 48, 50, 48, 51, 48, 52, 48, 53, 48, 54, 48, 55, 48, 56, 48, 57, 49, 48, 49, 49, 49, 50, 49, 51, 49, 52, 49, 53, 49, 54, 49, 55, 49, 56, 49, 57, 50, 48, 50, 49, 50, 50, 50, 51, 50, 52, 50, 53, 50, 54, 50, 55, 50, 56, 50, 57, 51, 48, 51, 49, 51, 50, 51, 51, 51, 52, 51, 53, 51, 54, 51, 55, 51, 56, 51, 57, 52, 48, 52, 49, 52, 50, 52, 51, 52, 52, 52, 53, 52, 54, 52, 55, 52, 56, 52, 57, 53, 48, 53, 49, 53, 50, 53, 51, 53, 52, 53, 53, 53, 54, 53, 55, 53, 56, 53, 57, 54, 48, 54, 49, 54, 50, 54, 51, 54, 52, 54, 53, 54, 54, 54, 55, 54, 56, 54, 57, 55, 48, 55, 49, 55, 50, 55, 51, 55, 52, 55, 53, 55, 54, 55, 55, 55, 56, 55, 57, 56, 48, 56, 49, 56, 50, 56, 51, 56, 52, 56, 53, 56, 54, 56, 55, 56, 56, 56, 57, 57, 48, 57, 49, 57, 50, 57, 51, 57, 52, 57, 53, 57, 54, 57, 55, 57, 56, 57, 57]⟩)) (zt 49)), zr 51 (.mv (zt 9)), zr 52 (.ixs (.const (.string ⟨#[48, 48, 48, 49, 48, 50, 48, 51, 48, 52, 48, 53, 48, 54, 48, 55, 48, 56, 48, 57, 49, 48, 49, 49, 49, 50, 49, 51, 49, 52, 49, 53, 49, 54, 49, 55, 49, 56, 49, 57, 50, 48, 50, 49, 50, 50, 50, 51, 50, 52, 50, 53, 50, 54, 50, 55, 50, 56, 50, 57, 51, 48, 51, 49, 51, 50, 51, 51, 51, 52, 51, 53, 51, 54, 51, 55, 51, 56, 51, 57, 52, 48, 52, 49, 52, 50, 52, 51, 52, 52, 52, 53, 52, 54, 52, 55, 52, 56, 52, 57, 53, 48, 53, 49, 53, 50, 53, 51, 53, 52, 53, 53, 53, 54, 53, 55, 53, 56, 53, 57, 54, 48, 54, 49, 54, 50, 54, 51, 54, 52, 54, 53, 54, 54, 54, 55, 54, 56, 54, 57, 55, 48, 55, 49, 55, 50, 55, 51, 55, 52, 55, 53, 55, 54, 55, 55, 55, 56, 55, 57, 56, 48, 56, 49, 56, 50, 56, 51, 56, 52, 56, 53, 56, 54, 56, 55, 56, 56, 56, 57, 57, 48, 57, 49, 57, 50, 57, 51, 57, 52, 57, 53, 57, 54, 57, 55, 57, 56, 57, 57]⟩)) (zt 51)), zr 53 (.ia 1 (zt 42) (zt 44)), ze (.st 1 (zt 53) (zt 50)), zr 54 (.ia 1 (zt 45) (zt 47)), ze (.st 1 (zt 54) (zt 52))])
  (.seq (.run [zr 55 (.mv (zt 0)), zr 56 (.mv (zt 4)), zr 57 (.bin .sub (zt 56) (zi 3)), zr 58 (.mv (zt 0)), zr 59 (.mv (zt 4)), zr 60 (.bin .sub (zt 59) (zi 4)), zr 61 (.mv (zt 8)), zr 62 (.bin .add (zt 61) (.const (.int .u32 1))), zr 63 (.ixs (.const (.string ⟨#[48, 48, 48, 49, 48, 50, 48, 51, 48, 52, 48, 53, 48, 54, 48, 55, 48, 56, 48, 57, 49, 48, 49, 49, 49, 50, 49, 51, 49, 52, 49, 53, 49, 54, 49, 55, 49, 56, 49, 57, 50, 48, 50, 49, 50, 50, 50, 51, 50, 52, 50, 53, 50, 54, 50, 55, 50, 56, 50, 57, 51, 48, 51, 49, 51, 50, 51, 51, 51, 52, 51, 53, 51, 54, 51, 55, 51, 56, 51, 57, 52, 48, 52, 49, 52, 50, 52, 51, 52, 52, 52, 53, 52, 54, 52, 55, 52, 56, 52, 57, 53, 48, 53, 49, 53, 50, 53, 51, 53, 52, 53, 53, 53, 54, 53, 55, 53, 56, 53, 57, 54, 48, 54, 49, 54, 50, 54, 51, 54, 52, 54, 53, 54, 54, 54, 55, 54, 56, 54, 57, 55, 48, 55, 49, 55, 50, 55, 51, 55, 52, 55, 53, 55, 54, 55, 55, 55, 56, 55, 57, 56, 48, 56, 49, 56, 50, 56, 51, 56, 52, 56, 53, 56, 54, 56, 55, 56, 56, 56, 57, 57, 48, 57, 49, 57, 50, 57, 51, 57, 52, 57, 53, 57, 54, 57, 55, 57, 56, 57, 57]⟩)) (zt 62)), zr 64 (.mv (zt 8)), zr 65 (.ixs (.const (.string ⟨#[48, 48, 48, 49, 48, 50, 48, 51, 48, 52, 48, 53, 48, 54, 48, 55, 48, 56, 48, 57, 49, 48, 49, 49, 49, 50, 49, 51, 49, 52, 49, 53, 49, 54, 49, 55, 49, 56, 49, 57, 50, 48, 50, 49, 50, 50, 50, 51, 50, 52, 50, 53, 50, 54, 50, 55, 50, 56, 50, 57, 51, 48, 51, 49, 51, 50, 51, 51, 51, 52, 51, 53, 51, 54, 51, 55, 51, 56, 51, 57, 52, 48, 52, 49, 52, 50, 52, 51, 52, 52, 52, 53, 52, 54, 52, 55, 52, 56, 52, 57, 53, 48, 53, 49, 53, 50, 53, 51, 53, 52, 53, 53, 53, 54, 53, 55, 53, 56, 53, 57, 54, 48, 54, 49, 54, 50, 54, 51, 54, 52, 54, 53, 54, 54, 54, 55, 54, 56, 54, 57, 55, 48, 55, 49, 55, 50, 55, 51, 55, 52, 55, 53, 55, 54, 55, 55, 55, 56, 55, 57, 56, 48, 56, 49, 56, 50, 56, 51, 56, 52, 56, 53, 56, 54, 56, 55, 56, 56, 56, 57, 57, 48, 57, 49, 57, 50, 57, 51, 57, 52, 57, 53, 57, 54, 57, 55, 57, 56, 57, 57]⟩)) (zt 64)), zr 66 (.ia 1 (zt 55) (zt 57)), ze (.st 1 (zt 66) (zt 63)), zr 67 (.ia 1 (zt 58) (zt 60)), ze (.st 1 (zt 67) (zt 65))])
  (.seq (.run [zr 68 (.mv (zt 0)), zr 69 (.mv (zt 4)), zr 70 (.bin .sub (zt 69) (zi 5)), zr 71 (.mv (zt 0)), zr 72 (.mv (zt 4)), zr 73 (.bin .sub (zt 72) (zi 6)), zr 74 (.mv (zt 11)), zr 75 (.bin .add (zt 74) (.const (.int .u32 1))), zr 76 (.ixs (.const (.string ⟨#[48, 48, 48, 49, 48, 50, 48, 51, 48, 52, 48, 53, 48, 54, 48, 55, 48, 56, 48, 57, 49, 48, 49, 49, 49, 50, 49, 51, 49, 52, 49, 53, 49, 54, 49, 55, 49, 56, 49, 57, 50, 48, 50, 49, 50, 50, 50, 51, 50, 52, 50, 53, 50, 54, 50, 55, 50, 56, 50, 57, 51, 48, 51, 49, 51, 50, 51, 51, 51, 52, 51, 53, 51, 54, 51, 55, 51, 56, 51, 57, 52, 48, 52, 49, 52, 50, 52, 51, 52, 52, 52, 53, 52, 54, 52, 55, 52, 56, 52, 57, 53, 48, 53, 49, 53, 50, 53, 51, 53, 52, 53, 53, 53, 54, 53, 55, 53, 56, 53, 57, 54, 48, 54, 49, 54, 50, 54, 51, 54, 52, 54, 53, 54, 54, 54, 55, 54, 56, 54, 57, 55, 48, 55, 49, 55, 50, 55, 51, 55, 52, 55, 53, 55, 54, 55, 55, 55, 56, 55, 57, 56, 48, 56, 49, 56, 50, 56, 51, 56, 52, 56, 53, 56, 54, 56, 55, 56, 56, 56, 57, 57, 48, 57, 49, 57, 50, 57, 51, 57, 52, 57, 53, 57, 54, 57, 55, 57, 56, 57, 57]⟩)) (zt 75)), zr 77 (.mv (zt 11)), zr 78 (.ixs (.const (.string ⟨#[48, 48, 48, 49, 48, 50, 48, 51, 48, 52, 48, 53, 48, 54, 48, 55, 48, 56, 48, 57, 49, 48, 49, 49, 49, 50, 49, 51, 49, 52, 49, 53, 49, 54, 49, 55, 49, 56, 49, 57, 50, 48, 50, 49, 50, 50, 50, 51, 50, 52, 50, 53, 50, 54, 50, 55, 50, 56, 50, 57, 51, 48, 51, 49, 51, 50, 51, 51, 51, 52, 51, 53, 51, 54, 51, 55, 51, 56, 51, 57, 52, 48, 52, 49, 52, 50, 52, 51, 52, 52, 52, 53, 52, 54, 52, 55, 52, 56, 52, 57, 53, 48, 53, 49, 53, 50, 53, 51, 53, 52, 53, 53, 53, 54, 53, 55, 53, 56, 53, 57, 54, 48, 54, 49, 54, 50, 54, 51, 54, 52, 54, 53, 54, 54, 54, 55, 54, 56, 54, 57, 55, 48, 55, 49, 55, 50, 55, 51, 55, 52, 55, 53, 55, 54, 55, 55, 55, 56, 55, 57, 56, 48, 56, 49, 56, 50, 56, 51, 56, 52, 56, 53, 56, 54, 56, 55, 56, 56, 56, 57, 57, 48, 57, 49, 57, 50, 57, 51, 57, 52, 57, 53, 57, 54, 57, 55, 57, 56, 57, 57]⟩)) (zt 77)), zr 79 (.ia 1 (zt 68) (zt 70)), ze (.st 1 (zt 79) (zt 76)), zr 80 (.ia 1 (zt 71) (zt 73)), ze (.st 1 (zt 80) (zt 78))])
  (.seq (.run [zr 81 (.mv (zt 0)), zr 82 (.mv (zt 4)), zr 83 (.bin .sub (zt 82) (zi 7)), zr 84 (.mv (zt 0)), zr 85 (.mv (zt 4)), zr 86 (.bin .sub (zt 85) (zi 8)), zr 87 (.mv (zt 10)), zr 88 (.bin .add (zt 87) (.const (.int .u32 1))), zr 89 (.ixs (.const (.string ⟨#[48, 48, 48, 49, 48, 50, 48, 51, 48, 52, 48, 53, 48, 54, 48, 55, 48, 56, 48, 57, 49, 48, 49, 49, 49, 50, 49, 51, 49, 52, 49, 53, 49, 54, 49, 55, 49, 56, 49, 57, 50, 48, 50, 49, 50, 50, 50, 51, 50, 52, 50, 53, 50, 54, 50, 55, 50, 56, 50, 57, 51, 48, 51, 49, 51, 50, 51, 51, 51, 52, 51, 53, 51, 54, 51, 55, 51, 56, 51, 57, 52, 48, 52, 49, 52, 50, 52, 51, 52, 52, 52, 53, 52, 54, 52, 55, 52, 56, 52, 57, 53, 48, 53, 49, 53, 50, 53, 51, 53, 52, 53, 53, 53, 54, 53, 55, 53, 56, 53, 57, 54, 48, 54, 49, 54, 50, 54, 51, 54, 52, 54, 53, 54, 54, 54, 55, 54, 56, 54, 57, 55, 48, 55, 49, 55, 50, 55, 51, 55, 52, 55, 53, 55, 54, 55, 55, 55, 56, 55, 57, 56, 48, 56, 49, 56, 50, 56, 51, 56, 52, 56, 53, 56, 54, 56, 55, 56, 56, 56, 57, 57, 48, 57, 49, 57, 50, 57, 51, 57, 52, 57, 53, 57, 54, 57, 55, 57, 56, 57, 57]⟩)) (zt 88)), zr 90 (.mv (zt 10)), zr 91 (.ixs (.const (.string ⟨#[48, 48, 48, 49, 48, 50, 48, 51, 48, 52, 48, 53, 48, 54, 48, 55, 48, 56, 48, 57, 49, 48, 49, 49, 49, 50, 49, 51, 49, 52, 49, 53, 49, 54, 49, 55, 49, 56, 49, 57, 50, 48, 50, 49, 50, 50, 50, 51, 50, 52, 50, 53, 50, 54, 50, 55, 50, 56, 50, 57, 51, 48, 51, 49, 51, 50, 51, 51, 51, 52, 51, 53, 51, 54, 51, 55, 51, 56, 51, 57, 52, 48, 52, 49, 52, 50, 52, 51, 52, 52, 52, 53, 52, 54, 52, 55, 52, 56, 52, 57, 53, 48, 53, 49, 53, 50, 53, 51, 53, 52, 53, 53, 53, 54, 53, 55, 53, 56, 53, 57, 54, 48, 54, 49, 54, 50, 54, 51, 54, 52, 54, 53, 54, 54, 54, 55, 54, 56, 54, 57, 55, 48, 55, 49, 55, 50, 55, 51, 55, 52, 55, 53, 55, 54, 55, 55, 55, 56, 55, 57, 56, 48, 56, 49, 56, 50, 56, 51, 56, 52, 56, 53, 56, 54, 56, 55, 56, 56, 56, 57, 57, 48, 57, 49, 57, 50, 57, 51, 57, 52, 57, 53, 57, 54, 57, 55, 57, 56, 57, 57]⟩)) (zt 90)), zr 92 (.ia 1 (zt 81) (zt 83)), ze (.st 1 (zt 92) (zt 89)), zr 93 (.ia 1 (zt 84) (zt 86)), ze (.st 1 (zt 93) (zt 91))])
  (.run [zr 94 (.mv (zt 4)), zr 95 (.bin .sub (zt 94) (zi 8)), za 4 (zt 95)])))))))))))
def rc68_1 : RC := (.seq (.seq (.run [zr 19 (.mv (zt 4)), zr 20 (.bin .geq (zt 19) (zi 8))])
  (.cond (zt 20)
  .skip
  (.exit 0)))
  rc68_0)
def rc68_2 : RC := (.seq (.run [zr 160 (.mv (zt 4)), zr 161 (.bin .gtr (zt 160) (zi 0))])
  (.cond (zt 161)
  (.run [zr 162 (.mv (zt 0)), zr 163 (.mv (zt 12)), zr 164 (.bin .add (.const (.int .u32 48)) (zt 163)), zr 165 (.cvi .u8 (zt 164)), zr 166 (.ia 1 (zt 162) (zi 0)), ze (.st 1 (zt 166) (zt 165))])
  .skip))
def rc68_3 : RC := (.seq (.seq (.run [zr 138 (.mv (zt 4)), zr 139 (.bin .geq (zt 138) (zi 2))])
  (.cond (zt 139)
  (.seq (.run [zr 140 (.mv (zt 12)), zr 141 (.bin .rem (zt 140) (.const (.int .u32 100))), zr 142 (.bin .mul (zt 141) (.const (.int .u32 2))), za 16 (zt 142)])
  (.seq (.run [zr 143 (.mv (zt 12)), zr 144 (.bin .quo (zt 143) (.const (.int .u32 100))), za 12 (zt 144)])
  (.seq (.run [zr 145 (.mv (zt 0)), zr 146 (.mv (zt 4)), zr 147 (.bin .sub (zt 146) (zi 1)), zr 148 (.mv (zt 0)), zr 149 (.mv (zt 4)), zr 150 (.bin .sub (zt 149) (zi 2)), zr 151 (.mv (zt 16)), zr 152 (.bin .add (zt 151) (.const (.int .u32 1))), zr 153 (.ixs (.const (.string ⟨#[48, 48, 48, 49, 48, 50, 48, 51, 48, 52, 48, 53, 48, 54, 48, 55, 48, 56, 48, 57, 49, 48, 49, 49, 49, 50, 49, 51, 49, 52, 49, 53, 49, 54, 49, 55, 49, 56, 49, 57, 50, 48, 50, 49, 50, 50, 50, 51, 50, 52, 50, 53, 50, 54, 50, 55, 50, 56, 50, 57, 51, 48, 51, 49, 51, 50, 51, 51, 51, 52, 51, 53, 51, 54, 51, 55, 51, 56, 51, 57, 52, 48, 52, 49, 52, 50, 52, 51, 52, 52, 52, 53, 52, 54, 52, 55, 52, 56, 52, 57, 53, 48, 53, 49, 53, 50, 53, 51, 53, 52, 53, 53, 53, 54, 53, 55, 53, 56, 53, 57, 54, 48, 54, 49, 54, 50, 54, 51, 54, 52, 54, 53, 54, 54, 54, 55, 54, 56, 54, 57, 55, 48, 55, 49, 55, 50, 55, 51, 55, 52, 55, 53, 55, 54, 55, 55, 55, 56, 55, 57, 56, 48, 56, 49, 56, 50, 56, 51, 56, 52, 56, 53, 56, 54, 56, 55, 56, 56, 56, 57, 57, 48, 57, 49, 57, 50, 57, 51, 57, 52, 57, 53, 57, 54, 57, 55, 57, 56, 57, 57]⟩)) (zt 152)), zr 154 (.mv (zt 16)), zr 155 (.ixs (.const (.string ⟨#[48, 48, 48, 49, 48, 50, 48, 51, 48, 52, 48, 53, 48, 54, 48, 55, 48, 56, 48, 57, 49, 48, 49, 49, 49, 50, 49, 51, 49, 52, 49, 53, 49, 54, 49, 55, 49, 56, 49, 57, 50, 48, 50, 49, 50, 50, 50, 51, 50, 52, 50, 53, 50, 54, 50, 55, 50, 56, 50, 57, 51, 48, 51, 49, 51, 50, 51, 51, 51, 52, 51, 53, 51, 54, 51, 55, 51, 56, 51, 57, 52, 48, 52, 49, 52, 50, 52, 51, 52, 52, 52, 53, 52, 54, 52, 55, 52, 56, 52, 57, 53, 48, 53, 49, 53, 50, 53, 51, 53, 52, 53, 53, 53, 54, 53, 55, 53, 56, 53, 57, 54, 48, 54, 49, 54, 50, 54, 51, 54, 52, 54, 53, 54, 54, 54, 55, 54, 56, 54, 57, 55, 48, 55, 49, 55, 50, 55, 51, 55, 52, 55, 53, 55, 54, 55, 55, 55, 56, 55, 57, 56, 48, 56, 49, 56, 50, 56, 51, 56, 52, 56, 53, 56, 54, 56, 55, 56, 56, 56, 57, 57, 48, 57, 49, 57, 50, 57, 51, 57, 52, 57, 53, 57, 54, 57, 55, 57, 56, 57, 57]⟩)) (zt 154)), zr 156 (.ia 1 (zt 145) (zt 147)), ze (.st 1 (zt 156) (zt 153)), zr 157 (.ia 1 (zt 148) (zt 150)), ze (.st 1 (zt 157) (zt 155))])
  (.run [zr 158 (.mv (zt 4)), zr 159 (.bin .sub (zt 158) (zi 2)), za 4 (zt 159)]))))
  .skip))
  rc68_2)
def rc68_4 : RC := (.seq (.run [zr 96 (.mv (zt 1)), zr 97 (.cvi .u32 (zt 96)), za 12 (zt 97)])
  (.seq (.seq (.run [zr 98 (.mv (zt 4)), zr 99 (.bin .geq (zt 98) (zi 4))])
  (.cond (zt 99)
  (.seq (.run [zr 100 (.mv (zt 12)), zr 101 (.bin .rem (zt 100) (.const (.int .u32 10000))), za 13 (zt 101)])
  (.seq (.run [zr 102 (.mv (zt 12)), zr 103 (.bin .quo (zt 102) (.const (.int .u32 10000))), za 12 (zt 103)])
  (.seq (.run [zr 104 (.mv (zt 13)), zr 105 (.bin .quo (zt 104) (.const (.int .u32 100))), zr 106 (.bin .mul (zt 105) (.const (.int .u32 2))), zr 107 (.mv (zt 13)), zr 108 (.bin .rem (zt 107) (.const (.int .u32 100))), zr 109 (.bin .mul (zt 108) (.const (.int .u32 2))), za 14 (zt 106), za 15 (zt 109)])
  (.seq (.run [zr 110 (.mv (zt 0)), zr 111 (.mv (zt 4)), zr 112 (.bin .sub (zt 111) (zi 1)), zr 113 (.mv (zt 0)), zr 114 (.mv (zt 4)), zr 115 (.bin .sub (zt 114) (zi 2)), zr 116 (.mv (zt 15)), zr 117 (.bin .add (zt 116) (.const (.int .u32 1))), zr 118 (.ixs (.const (.string ⟨#[48, 48, 48, 49, 48, 50, 48, 51, 48, 52, 48, 53, 48, 54, 48, 55, 48, 56, 48, 57, 49, 48, 49, 49, 49, 50, 49, 51, 49, 52, 49, 53, 49, 54, 49, 55, 49, 56, 49, 57, 50, 48, 50, 49, 50, 50, 50, 51, 50, 52, 50, 53, 50, 54, 50, 55, 50, 56, 50, 57, 51, 48, 51, 49, 51, 50, 51, 51, 51, 52, 51, 53, 51, 54, 51, 55, 51, 56, 51, 57, 52, 48, 52, 49, 52, 50, 52, 51, 52, 52, 52, 53, 52, 54, 52, 55, 52, 56, 52, 57, 53, 48, 53, 49, 53, 50, 53, 51, 53, 52, 53, 53, 53, 54, 53, 55, 53, 56, 53, 57, 54, 48, 54, 49, 54, 50, 54, 51, 54, 52, 54, 53, 54, 54, 54, 55, 54, 56, 54, 57, 55, 48, 55, 49, 55, 50, 55, 51, 55, 52, 55, 53, 55, 54, 55, 55, 55, 56, 55, 57, 56, 48, 56, 49, 56, 50, 56, 51, 56, 52, 56, 53, 56, 54, 56, 55, 56, 56, 56, 57, 57, 48, 57, 49, 57, 50, 57, 51, 57, 52, 57, 53, 57, 54, 57, 55, 57, 56, 57, 57]⟩)) (zt 117)), zr 119 (.mv (zt 15)), zr 120 (.ixs (.const (.string ⟨#[48, 48, 48, 49, 48, 50, 48, 51, 48, 52, 48, 53, 48, 54, 48, 55, 48, 56, 48, 57, 49, 48, 49, 49, 49, 50, 49, 51, 49, 52, 49, 53, 49, 54, 49, 55, 49, 56, 49, 57, 50, 48, 50, 49, 50, 50, 50, 51, 50, 52, 50, 53, 50, 54, 50, 55, 50, 56, 50, 57, 51, 48, 51, 49, 51, 50, 51, 51, 51, 52, 51, 53, 51, 54, 51, 55, 51, 56, 51, 57, 52, 48, 52, 49, 52, 50, 52, 51, 52, 52, 52, 53, 52, 54, 52, 55, 52, 56, 52, 57, 53, 48, 53, 49, 53, 50, 53, 51, 53, 52, 53, 53, 53, 54, 53, 55, 53, 56, 53, 57, 54, 48, 54, 49, 54, 50, 54, 51, 54, 52, 54, 53, 54, 54, 54, 55, 54, 56, 54, 57, 55, 48, 55, 49, 55, 50, 55, 51, 55, 52, 55, 53, 55, 54, 55, 55, 55, 56, 55, 57, 56, 48, 56, 49, 56, 50, 56, 51, 56, 52, 56, 53, 56, 54, 56, 55, 56, 56, 56, 57, 57, 48, 57, 49, 57, 50, 57, 51, 57, 52, 57, 53, 57, 54, 57, 55, 57, 56, 57, 57]⟩)) (zt 119)), zr 121 (.ia 1 (zt 110) (zt 112)), ze (.st 1 (zt 121) (zt 118)), zr 122 (.ia 1 (zt 113) (zt 115)), ze (.st 1 (zt 122) (zt 120))])
  (.seq (.run [zr 123 (.mv (zt 0)), zr 124 (.mv (zt 4)), zr 125 (.bin .sub (zt 124) (zi 3)), zr 126 (.mv (zt 0)), zr 127 (.mv (zt 4)), zr 128 (.bin .sub (zt 127) (zi 4)), zr 129 (.mv (zt 14)), zr 130 (.bin .add (zt 129) (.const (.int .u32 1))), zr 131 (.ixs (.const (.string ⟨#[48, 48, 48, 49, 48, 50, 48, 51, 48, 52, 48, 53, 48, 54, 48, 55, 48, 56, 48, 57, 49, 48, 49, 49, 49, 50, 49, 51, 49, 52, 49, 53, 49, 54, 49, 55, 49, 56, 49, 57, 50, 48, 50, 49, 50, 50, 50, 51, 50, 52, 50, 53, 50, 54, 50, 55, 50, 56, 50, 57, 51, 48, 51, 49, 51, 50, 51, 51, 51, 52, 51, 53, 51, 54, 51, 55, 51, 56, 51, 57, 52, 48, 52, 49, 52, 50, 52, 51, 52, 52, 52, 53, 52, 54, 52, 55, 52, 56, 52, 57, 53, 48, 53, 49, 53, 50, 53, 51, 53, 52, 53, 53, 53, 54, 53, 55, 53, 56, 53, 57, 54, 48, 54, 49, 54, 50, 54, 51, 54, 52, 54, 53, 54, 54, 54, 55, 54, 56, 54, 57, 55, 48, 55, 49, 55, 50, 55, 51, 55, 52, 55, 53, 55, 54, 55, 55, 55, 56, 55, 57, 56, 48, 56, 49, 56, 50, 56, 51, 56, 52, 56, 53, 56, 54, 56, 55, 56, 56, 56, 57, 57, 48, 57, 49, 57, 50, 57, 51, 57, 52, 57, 53, 57, 54, 57, 55, 57, 56, 57, 57]⟩)) (zt 130)), zr 132 (.mv (zt 14)), zr 133 (.ixs (.const (.string ⟨#[48, 48, 48, 49, 48, 50, 48, 51, 48, 52, 48, 53, 48, 54, 48, 55, 48, 56, 48, 57, 49, 48, 49, 49, 49, 50, 49, 51, 49, 52, 49, 53, 49, 54, 49, 55, 49, 56, 49, 57, 50, 48, 50, 49, 50, 50, 50, 51, 50, 52, 50, 53, 50, 54, 50, 55, 50, 56, 50, 57, 51, 48, 51, 49, 51, 50, 51, 51, 51, 52, 51, 53, 51, 54, 51, 55, 51, 56, 51, 57, 52, 48, 52, 49, 52, 50, 52, 51, 52, 52, 52, 53, 52, 54, 52, 55, 52, 56, 52, 57, 53, 48, 53, 49, 53, 50, 53, 51, 53, 52, 53, 53, 53, 54, 53, 55, 53, 56, 53, 57, 54, 48, 54, 49, 54, 50, 54, 51, 54, 52, 54, 53, 54, 54, 54, 55, 54, 56, 54, 57, 55, 48, 55, 49, 55, 50, 55, 51, 55, 52, 55, 53, 55, 54, 55, 55, 55, 56, 55, 57, 56, 48, 56, 49, 56, 50, 56, 51, 56, 52, 56, 53, 56, 54, 56, 55, 56, 56, 56, 57, 57, 48, 57, 49, 57, 50, 57, 51, 57, 52, 57, 53, 57, 54, 57, 55, 57, 56, 57, 57]⟩)) (zt 132)), zr 134 (.ia 1 (zt 123) (zt 125)), ze (.st 1 (zt 134) (zt 131)), zr 135 (.ia 1 (zt 126) (zt 128)), ze (.st 1 (zt 135) (zt 133))])
  (.run [zr 136 (.mv (zt 4)), zr 137 (.bin .sub (zt 136) (zi 4)), za 4 (zt 137)]))))))
  .skip))
  rc68_3))
def rc68 : RC := (.seq (.run [zr 17 (.mv (zt 0)), zr 18 (.lenl (zt 17)), za 4 (zt 18)])
  (.seq (.block 0 (.loop rc68_1))
  rc68_4))
def ce68 : List (Nat × List Nat × List Nat) := [(7, [0, 1, 2, 3, 4, 5, 6, 7, 8, 9, 10, 11, 12, 13, 14], [0, 0, 2, 0, 0, 16, 0, 64, 192, 0, 512, 455, 2503, 8191, 16383]), (8, [0, 1, 2, 3, 4, 5, 6, 7, 8, 9, 10, 11, 12, 13, 14], [0, 0, 2, 0, 0, 16, 0, 64, 192, 0, 512, 455, 2503, 8191, 16383]), (9, [0, 1, 2, 3, 4, 5, 6, 7, 8, 9, 10, 11, 12, 13, 14], [0, 0, 2, 0, 0, 16, 0, 64, 192, 0, 512, 455, 2503, 8191, 16383]), (10, [0, 1, 2, 3, 4, 5, 6, 7, 8, 9, 10, 11, 12, 13, 14], [0, 0, 2, 0, 0, 16, 0, 64, 192, 0, 512, 455, 2503, 8191, 16383]), (17, [0, 1, 2, 3, 4, 5, 6, 7, 8, 9, 10, 11, 12, 13, 14], [0, 0, 2, 0, 0, 16, 0, 64, 192, 0, 512, 455, 2503, 8191, 16383]), (18, [0, 1, 2, 3, 4, 5, 6, 7, 8, 9, 10, 11, 12, 13, 14], [0, 0, 2, 0, 0, 16, 0, 64, 192, 0, 512, 455, 2503, 8191, 16383]), (23, [0, 1, 2, 3, 4, 5, 6, 7, 8, 9, 10, 11, 12, 13, 14], [0, 0, 2, 0, 0, 16, 0, 64, 192, 0, 512, 455, 2503, 8191, 16383])]
def ro68 : List RO := []
theorem ok68 : okFn Tryz.prog 68 167 ce68 = some (rc68, ro68) := by kernel_rfl
def rc69_0 : RC := (.block 1 (.seq (.run [zr 47 (.mv (zt 13)), zr 48 (.bin .sub (zt 47) (zi 1)), za 13 (zt 48)])
  (.seq (.run [zr 49 (.mv (zt 13)), zr 50 (.mv (zt 1)), zr 51 (.mv (zt 16)), zr 52 (.bin .and (zt 50) (zt 51)), zr 53 (.ixs (.const (.string ⟨#[48, 49, 50, 51, 52, 53, 54, 55, 56, 57, 97, 98, 99, 100, 101, 102, 103, 104, 105, 106, 107, 108, 109, 110, 111, 112, 113, 114, 115, 116, 117, 118, 119, 120, 121, 122]⟩)) (zt 52)), zr 54 (.iaa 65 1 (zt 12) (zt 49)), ze (.st 1 (zt 54) (zt 53))])
  (.run [zr 55 (.mv (zt 1)), zr 56 (.mv (zt 14)), zr 57 (.bin .shr (zt 55) (zt 56)), za 1 (zt 57)]))))
def rc69_1 : RC := (.seq (.seq (.run [zr 44 (.mv (zt 1)), zr 45 (.mv (zt 15)), zr 46 (.bin .geq (zt 44) (zt 45))])
  (.cond (zt 46)
  .skip
  (.exit 0)))
  rc69_0)
def rc69_2 : RC := (.seq (.run [zr 58 (.mv (zt 13)), zr 59 (.bin .sub (zt 58) (zi 1)), za 13 (zt 59)])
  (.run [zr 60 (.mv (zt 13)), zr 61 (.mv (zt 1)), zr 62 (.ixs (.const (.string ⟨#[48, 49, 50, 51, 52, 53, 54, 55, 56, 57, 97, 98, 99, 100, 101, 102, 103, 104, 105, 106, 107, 108, 109, 110, 111, 112, 113, 114, 115, 116, 117, 118, 119, 120, 121, 122]⟩)) (zt 61)), zr 63 (.iaa 65 1 (zt 12) (zt 60)), ze (.st 1 (zt 63) (zt 62))]))
def rc69_3 : RC := (.block 3 (.seq (.run [zr 69 (.mv (zt 13)), zr 70 (.bin .sub (zt 69) (zi 1)), za 13 (zt 70)])
  (.seq (.run [zr 71 (.mv (zt 1)), zr 72 (.mv (zt 17)), zr 73 (.bin .quo (zt 71) (zt 72)), za 18 (zt 73)])
  (.seq (.run [zr 74 (.mv (zt 13)), zr 75 (.mv (zt 1)), zr 76 (.mv (zt 18)), zr 77 (.mv (zt 17)), zr 78 (.bin .mul (zt 76) (zt 77)), zr 79 (.bin .sub (zt 75) (zt 78)), zr 80 (.ixs (.const (.string ⟨#[48, 49, 50, 51, 52, 53, 54, 55, 56, 57, 97, 98, 99, 100, 101, 102, 103, 104, 105, 106, 107, 108, 109, 110, 111, 112, 113, 114, 115, 116, 117, 118, 119, 120, 121, 122]⟩)) (zt 79)), zr 81 (.iaa 65 1 (zt 12) (zt 74)), ze (.st 1 (zt 81) (zt 80))])
  (.run [zr 82 (.mv (zt 18)), za 1 (zt 82)])))))
def rc69_4 : RC := (.seq (.seq (.run [zr 66 (.mv (zt 1)), zr 67 (.mv (zt 17)), zr 68 (.bin .geq (zt 66) (zt 67))])
  (.cond (zt 68)
  .skip
  (.exit 2)))
  rc69_3)
def rc69_5 : RC := (.seq (.run [zr 83 (.mv (zt 13)), zr 84 (.bin .sub (zt 83) (zi 1)), za 13 (zt 84)])
  (.run [zr 85 (.mv (zt 13)), zr 86 (.mv (zt 1)), zr 87 (.ixs (.const (.string ⟨#[48, 49, 50, 51, 52, 53, 54, 55, 56, 57, 97, 98, 99, 100, 101, 102, 103, 104, 105, 106, 107, 108, 109, 110, 111, 112, 113, 114, 115, 116, 117, 118, 119, 120, 121, 122]⟩)) (zt 86)), zr 88 (.iaa 65 1 (zt 12) (zt 85)), ze (.st 1 (zt 88) (zt 87))]))
def rc69_6 : RC := (.seq (.run [zr 99 (.mv (zt 13)), zr 100 (.sla 65 1 (zt 12) (some (zt 99)) none), zr 101 (.b2s (zt 100)), za 11 (zt 101)])
  .ret)
def rc69_7 : RC := (.seq (.seq (.run [zr 94 (.mv (zt 4))])
  (.cond (zt 94)
  (.seq (.run [zr 95 (.mv (zt 0)), zr 96 (.mv (zt 13)), zr 97 (.sla 65 1 (zt 12) (some (zt 96)) none), zf 98 (.app 5 1 1 (zt 95) (zt 97)), za 10 (zt 98)])
  .ret)
  .skip))
  rc69_6)
def rc69_8 : RC := (.seq (.seq (.run [zr 89 (.mv (zt 3))])
  (.cond (zt 89)
  (.seq (.run [zr 90 (.mv (zt 13)), zr 91 (.bin .sub (zt 90) (zi 1)), za 13 (zt 91)])
  (.run [zr 92 (.mv (zt 13)), zr 93 (.iaa 65 1 (zt 12) (zt 92)), ze (.st 1 (zt 93) (.const (.int .u8 45)))]))
  .skip))
  rc69_7)
def rc69_9 : RC := (.seq (.seq (.run [zr 33 (.mv (zt 2)), zc 34 81 [(zt 33)]])
  (.cond (zt 34)
  (.seq (.run [zr 35 (.mv (zt 2)), zr 36 (.cvi .u64 (zt 35)), zc 37 82 [(zt 36)], zr 38 (.cvi .u64 (zt 37)), za 14 (zt 38)])
  (.seq (.run [zr 39 (.mv (zt 2)), zr 40 (.cvi .u64 (zt 39)), za 15 (zt 40)])
  (.seq (.run [zr 41 (.mv (zt 2)), zr 42 (.cvi .u64 (zt 41)), zr 43 (.bin .sub (zt 42) (.const (.int .u64 1))), za 16 (zt 43)])
  (.seq (.block 0 (.loop rc69_1))
  rc69_2))))
  (.seq (.run [zr 64 (.mv (zt 2)), zr 65 (.cvi .u64 (zt 64)), za 17 (zt 65)])
  (.seq (.block 2 (.loop rc69_4))
  rc69_5))))
  rc69_8)
def rc69_10 : RC := (.seq (.run [zf 12 (.al [(.int .u8 0), (.int .u8 0), (.int .u8 0), (.int .u8 0), (.int .u8 0), (.int .u8 0), (.int .u8 0), (.int .u8 0), (.int .u8 0), (.int .u8 0), (.int .u8 0), (.int .u8 0), (.int .u8 0), (.int .u8 0), (.int .u8 0), (.int .u8 0), (.int .u8 0), (.int .u8 0), (.int .u8 0), (.int .u8 0), (.int .u8 0), (.int .u8 0), (.int .u8 0), (.int .u8 0), (.int .u8 0), (.int .u8 0), (.int .u8 0), (.int .u8 0), (.int .u8 0), (.int .u8 0), (.int .u8 0), (.int .u8 0), (.int .u8 0), (.int .u8 0), (.int .u8 0), (.int .u8 0), (.int .u8 0), (.int .u8 0), (.int .u8 0), (.int .u8 0), (.int .u8 0), (.int .u8 0), (.int .u8 0), (.int .u8 0), (.int .u8 0), (.int .u8 0), (.int .u8 0), (.int .u8 0), (.int .u8 0), (.int .u8 0), (.int .u8 0), (.int .u8 0), (.int .u8 0), (.int .u8 0), (.int .u8 0), (.int .u8 0), (.int .u8 0), (.int .u8 0), (.int .u8 0), (.int .u8 0), (.int .u8 0), (.int .u8 0), (.int .u8 0), (.int .u8 0), (.int .u8 0)] 141)])
  (.seq (.run [za 13 (zi 65)])
  (.seq (.seq (.run [zr 30 (.mv (zt 3))])
  (.cond (zt 30)
  (.run [zr 31 (.mv (zt 1)), zr 32 (.neg (zt 31)), za 1 (zt 32)])
  .skip))
  rc69_9)))
def rc69 : RC := (.seq (.run [za 10 (.const (.slice none 0 0)), za 11 (.const (.string ⟨#[]⟩))])
  (.seq (.seq (.run [zr 19 (.mv (zt 2)), zr 20 (.bin .lss (zt 19) (zi 2)), zr 21 (.mv (zt 20)), zg 22 21 false (.mv (zt 2)), zg 23 21 false (.bin .eql (zt 22) (zi 10)), zr 24 (.pick (zt 21) (.const (.bool true)) (zt 23)), zr 25 (.mv (zt 24)), zg 26 25 false (.mv (zt 2)), zg 27 25 false (.bin .gtr (zt 26) (zi 36)), zr 28 (.pick (zt 25) (.const (.bool true)) (zt 27))])
  (.cond (zt 28)
  (.run [zr 29 (.mki 9 (.const (.string ⟨#[115, 116, 114, 99, 111, 110, 118, 58, 32, 105, 108, 108, 101, 103, 97, 108, 32, 65, 112, 112, 101, 110, 100, 73, 110, 116, 47, 70, 111, 114, 109, 97, 116, 73, 110, 116, 32, 98, 97, 115, 101]⟩))), ⟨none, none, .bad, []⟩])
  .skip))
  rc69_10))
def ce69 : List (Nat × List Nat × List Nat) := []
def ro69 : List RO := [(.mv (zt 10)), (.mv (zt 11))]
theorem ok69 : okFn Tryz.prog 69 102 ce69 = some (rc69, ro69) := by kernel_rfl
def rc76_0 : RC := (.seq (.run [zr 42 (.mv (zt 9)), zr 43 (.mv (zt 10)), zr 44 (.mv (zt 0)), zr 45 (.mv (zt 11)), zr 46 (.mv (zt 2)), zr 47 (.bin .add (zt 45) (zt 46)), zr 48 (.sls (zt 44) none (some (zt 47))), zr 49 (.ia 1 (zt 42) (zt 43)), ze (.st 1 (zt 49) (zt 48))])
  (.seq (.run [zr 50 (.mv (zt 0)), zr 51 (.mv (zt 11)), zr 52 (.mv (zt 1)), zr 53 (.lens (zt 52)), zr 54 (.bin .add (zt 51) (zt 53)), zr 55 (.sls (zt 50) (some (zt 54)) none), za 0 (zt 55)])
  (.run [zr 56 (.mv (zt 10)), zr 57 (.bin .add (zt 56) (zi 1)), za 10 (zt 57)])))
def rc76_1 : RC := (.block 1 (.seq (.run [zr 37 (.mv (zt 0)), zr 38 (.mv (zt 1)), zc 39 90 [(zt 37), (zt 38)], za 11 (zt 39)])
  (.seq (.seq (.run [zr 40 (.mv (zt 11)), zr 41 (.bin .lss (zt 40) (zi 0))])
  (.cond (zt 41)
  (.exit 0)
  .skip))
  rc76_0)))
def rc76_2 : RC := (.seq (.seq (.run [zr 34 (.mv (zt 10)), zr 35 (.mv (zt 3)), zr 36 (.bin .lss (zt 34) (zt 35))])
  (.cond (zt 36)
  .skip
  (.exit 0)))
  rc76_1)
def rc76_3 : RC := (.seq (.run [zr 58 (.mv (zt 9)), zr 59 (.mv (zt 10)), zr 60 (.mv (zt 0)), zr 61 (.ia 1 (zt 58) (zt 59)), ze (.st 1 (zt 61) (zt 60))])
  (.seq (.run [zr 62 (.mv (zt 9)), zr 63 (.mv (zt 10)), zr 64 (.bin .add (zt 63) (zi 1)), zr 65 (.sl 1 (zt 62) none (some (zt 64))), za 8 (zt 65)])
  .ret))
def rc76_4 : RC := (.seq (.run [zr 25 (.mv (zt 3)), zr 26 (.mv (zt 0)), zr 27 (.lens (zt 26)), zr 28 (.bin .add (zt 27) (zi 1)), zr 29 (.mn (zt 25) (zt 28)), za 3 (zt 29)])
  (.seq (.run [zr 30 (.mv (zt 3)), zf 31 (.mks 9 16 (.string ⟨#[]⟩) (zt 30) (zt 30)), za 9 (zt 31)])
  (.seq (.run [zr 32 (.mv (zt 3)), zr 33 (.bin .sub (zt 32) (zi 1)), za 3 (zt 33)])
  (.seq (.run [za 10 (zi 0)])
  (.seq (.block 0 (.loop rc76_2))
  rc76_3)))))
def rc76_5 : RC := (.seq (.seq (.run [zr 19 (.mv (zt 3)), zr 20 (.bin .lss (zt 19) (zi 0))])
  (.cond (zt 20)
  (.run [zr 21 (.mv (zt 0)), zr 22 (.mv (zt 1)), zc 23 89 [(zt 21), (zt 22)], zr 24 (.bin .add (zt 23) (zi 1)), za 3 (zt 24)])
  .skip))
  rc76_4)
def rc76_6 : RC := (.seq (.seq (.run [zr 14 (.mv (zt 1)), zr 15 (.bin .eql (zt 14) (.const (.string ⟨#[]⟩)))])
  (.cond (zt 15)
  (.seq (.run [zr 16 (.mv (zt 0)), zr 17 (.mv (zt 3)), zc 18 88 [(zt 16), (zt 17)], za 8 (zt 18)])
  .ret)
  .skip))
  rc76_5)
def rc76 : RC := (.seq (.run [za 8 (.const (.slice none 0 0))])
  (.seq (.seq (.run [zr 12 (.mv (zt 3)), zr 13 (.bin .eql (zt 12) (zi 0))])
  (.cond (zt 13)
  (.seq (.run [za 8 (.const (.slice none 0 0))])
  .ret)
  .skip))
  rc76_6))
def ce76 : List (Nat × List Nat × List Nat) := []
def ro76 : List RO := [(.mv (zt 8))]
theorem ok76 : okFn Tryz.prog 76 66 ce76 = some (rc76, ro76) := by kernel_rfl
def rc77_0 : RC := (.seq (.run [zr 25 (.mv (zt 8)), za 6 (zt 25), za 7 (.const .nilIface)])
  .ret)
def rc77 : RC := (.seq (.run [za 6 (.const (.int .u64 0)), za 7 (.const .nilIface)])
  (.seq (.run [zr 11 (.mv (zt 0)), zr 12 (.mv (zt 1)), zr 13 (.mv (zt 2)), zc 14 91 [(zt 11), (zt 12), (zt 13)], zr 10 (.mv (zt 14)), zr 15 (.ext 0 (zt 10)), zr 16 (.ext 1 (zt 10)), za 8 (zt 15), za 9 (zt 16)])
  (.seq (.seq (.run [zr 17 (.mv (zt 9)), zr 18 (.eq true (.iface []) (zt 17) (.const .nilIface))])
  (.cond (zt 18)
  (.seq (.run [zr 19 (.mv (zt 8)), zr 20 (.mv (zt 0)), zr 21 (.mv (zt 1)), zr 22 (.mv (zt 2)), zr 23 (.mv (zt 9)), zc 24 92 [(.const (.string ⟨#[80, 97, 114, 115, 101, 85, 105, 110, 116]⟩)), (zt 20), (zt 21), (zt 22), (zt 23)], za 6 (zt 19), za 7 (zt 24)])
  .ret)
  .skip))
  rc77_0)))
def ce77 : List (Nat × List Nat × List Nat) := []
def ro77 : List RO := [(.mv (zt 6)), (.mv (zt 7))]
theorem ok77 : okFn Tryz.prog 77 26 ce77 = some (rc77, ro77) := by kernel_rfl
def rc78 : RC := (.seq (.run [za 2 (zi 0)])
  (.seq (.run [zr 3 (.mv (zt 0)), zr 4 (.bin .mul (zt 3) (zi 78913)), zr 5 (.bin .shr (zt 4) (.const (.int .u64 18))), za 2 (zt 5)])
  .ret))
def ce78 : List (Nat × List Nat × List Nat) := []
def ro78 : List RO := [(.mv (zt 2))]
theorem ok78 : okFn Tryz.prog 78 6 ce78 = some (rc78, ro78) := by kernel_rfl
def rc79_0 : RC := (.seq (.run [zr 19 (.mv (zt 2)), zr 20 (.mv (zt 0)), zr 21 (.cvi .u8 (zt 20)), zr 22 (.ixs (.const (.string ⟨#[0, 1, 2, 2, 3, 3, 3, 3, 4, 4, 4, 4, 4, 4, 4, 4, 5, 5, 5, 5, 5, 5, 5, 5, 5, 5, 5, 5, 5, 5, 5, 5, 6, 6, 6, 6, 6, 6, 6, 6, 6, 6, 6, 6, 6, 6, 6, 6, 6, 6, 6, 6, 6, 6, 6, 6, 6, 6, 6, 6, 6, 6, 6, 6, 7, 7, 7, 7, 7, 7, 7, 7, 7, 7, 7, 7, 7, 7, 7, 7, 7, 7, 7, 7, 7, 7, 7, 7, 7, 7, 7, 7, 7, 7, 7, 7, 7, 7, 7, 7, 7, 7, 7, 7, 7, 7, 7, 7, 7, 7, 7, 7, 7, 7, 7, 7, 7, 7, 7, 7, 7, 7, 7, 7, 7, 7, 7, 7, 8, 8, 8, 8, 8, 8, 8, 8, 8, 8, 8, 8, 8, 8, 8, 8, 8, 8, 8, 8, 8, 8, 8, 8, 8, 8, 8, 8, 8, 8, 8, 8, 8, 8, 8, 8, 8, 8, 8, 8, 8, 8, 8, 8, 8, 8, 8, 8, 8, 8, 8, 8, 8, 8, 8, 8, 8, 8, 8, 8, 8, 8, 8, 8, 8, 8, 8, 8, 8, 8, 8, 8, 8, 8, 8, 8, 8, 8, 8, 8, 8, 8, 8, 8, 8, 8, 8, 8, 8, 8, 8, 8, 8, 8, 8, 8, 8, 8, 8, 8, 8, 8, 8, 8, 8, 8, 8, 8, 8, 8, 8, 8, 8, 8, 8, 8, 8, 8, 8, 8, 8, 8, 8, 8, 8, 8, 8, 8]⟩)) (zt 21)), zr 23 (.cvi .i64 (zt 22)), zr 24 (.bin .add (zt 19) (zt 23)), za 2 (zt 24)])
  .ret)
def rc79_1 : RC := (.seq (.seq (.run [zr 13 (.mv (zt 0)), zr 14 (.bin .geq (zt 13) (.const (.int .u64 256)))])
  (.cond (zt 14)
  (.seq (.run [zr 15 (.mv (zt 0)), zr 16 (.bin .shr (zt 15) (.const (.int .u64 8))), za 0 (zt 16)])
  (.run [zr 17 (.mv (zt 2)), zr 18 (.bin .add (zt 17) (zi 8)), za 2 (zt 18)]))
  .skip))
  rc79_0)
def rc79_2 : RC := (.seq (.seq (.run [zr 7 (.mv (zt 0)), zr 8 (.bin .geq (zt 7) (.const (.int .u64 65536)))])
  (.cond (zt 8)
  (.seq (.run [zr 9 (.mv (zt 0)), zr 10 (.bin .shr (zt 9) (.const (.int .u64 16))), za 0 (zt 10)])
  (.run [zr 11 (.mv (zt 2)), zr 12 (.bin .add (zt 11) (zi 16)), za 2 (zt 12)]))
  .skip))
  rc79_1)
def rc79 : RC := (.seq (.run [za 2 (zi 0)])
  (.seq (.seq (.run [zr 3 (.mv (zt 0)), zr 4 (.bin .geq (zt 3) (.const (.int .u64 4294967296)))])
  (.cond (zt 4)
  (.seq (.run [zr 5 (.mv (zt 0)), zr 6 (.bin .shr (zt 5) (.const (.int .u64 32))), za 0 (zt 6)])
  (.run [za 2 (zi 32)]))
  .skip))
  rc79_2))
def ce79 : List (Nat × List Nat × List Nat) := []
def ro79 : List RO := [(.mv (zt 2))]
theorem ok79 : okFn Tryz.prog 79 25 ce79 = some (rc79, ro79) := by kernel_rfl
def rc80_0 : RC := (.seq (.run [za 2 (zi 0)])
  .ret)
def rc80 : RC := (.seq (.run [za 2 (zi 0)])
  (.seq (.seq (.run [zr 3 (.mv (zt 0))])
  (.cond (zt 3)
  (.seq (.run [za 2 (zi 1)])
  .ret)
  .skip))
  rc80_0))
def ce80 : List (Nat × List Nat × List Nat) := []
def ro80 : List RO := [(.mv (zt 2))]
theorem ok80 : okFn Tryz.prog 80 4 ce80 = some (rc80, ro80) := by kernel_rfl
def rc81 : RC := (.seq (.run [za 2 (.const (.bool false))])
  (.seq (.run [zr 3 (.mv (zt 0)), zr 4 (.mv (zt 0)), zr 5 (.bin .sub (zt 4) (zi 1)), zr 6 (.bin .and (zt 3) (zt 5)), zr 7 (.bin .eql (zt 6) (zi 0)), za 2 (zt 7)])
  .ret))
def ce81 : List (Nat × List Nat × List Nat) := []
def ro81 : List RO := [(.mv (zt 2))]
theorem ok81 : okFn Tryz.prog 81 8 ce81 = some (rc81, ro81) := by kernel_rfl
def rc82_0 : RC := (.seq (.run [zr 6 (.mv (zt 0)), zc 7 94 [(zt 6)], za 2 (zt 7)])
  .ret)
def rc82 : RC := (.seq (.run [za 2 (zi 0)])
  (.seq (.cond (.const (.bool false))
  (.seq (.run [zr 3 (.mv (zt 0)), zr 4 (.cvi .u32 (zt 3)), zc 5 93 [(zt 4)], za 2 (zt 5)])
  .ret)
  .skip)
  rc82_0))
def ce82 : List (Nat × List Nat × List Nat) := []
def ro82 : List RO := [(.mv (zt 2))]
theorem ok82 : okFn Tryz.prog 82 8 ce82 = some (rc82, ro82) := by kernel_rfl
def rc88_0 : RC := (.seq (.block 1 (.seq (.run [zr 29 (.mv (zt 0)), zc 30 103 [(zt 29)], zr 28 (.mv (zt 30)), zr 31 (.ext 0 (zt 28)), zr 32 (.ext 1 (zt 28)), za 8 (zt 31), za 9 (zt 32)])
  (.seq (.run [zr 33 (.mv (zt 6)), zr 34 (.mv (zt 7)), zr 35 (.mv (zt 0)), zr 36 (.mv (zt 9)), zr 37 (.sls (zt 35) none (some (zt 36))), zr 38 (.ia 1 (zt 33) (zt 34)), ze (.st 1 (zt 38) (zt 37))])
  (.run [zr 39 (.mv (zt 0)), zr 40 (.mv (zt 9)), zr 41 (.sls (zt 39) (some (zt 40)) none), za 0 (zt 41)]))))
  (.run [zr 26 (.mv (zt 7)), zr 27 (.bin .add (zt 26) (zi 1)), za 7 (zt 27)]))
def rc88_1 : RC := (.seq (.seq (.run [zr 22 (.mv (zt 7)), zr 23 (.mv (zt 1)), zr 24 (.bin .sub (zt 23) (zi 1)), zr 25 (.bin .lss (zt 22) (zt 24))])
  (.cond (zt 25)
  .skip
  (.exit 0)))
  rc88_0)
def rc88_2 : RC := (.seq (.run [zr 49 (.mv (zt 6)), za 4 (zt 49)])
  .ret)
def rc88_3 : RC := (.seq (.seq (.run [zr 42 (.mv (zt 1)), zr 43 (.bin .gtr (zt 42) (zi 0))])
  (.cond (zt 43)
  (.run [zr 44 (.mv (zt 6)), zr 45 (.mv (zt 1)), zr 46 (.bin .sub (zt 45) (zi 1)), zr 47 (.mv (zt 0)), zr 48 (.ia 1 (zt 44) (zt 46)), ze (.st 1 (zt 48) (zt 47))])
  .skip))
  rc88_2)
def rc88_4 : RC := (.seq (.run [zr 20 (.mv (zt 1)), zf 21 (.mks 9 16 (.string ⟨#[]⟩) (zt 20) (zt 20)), za 6 (zt 21)])
  (.seq (.seq (.run [za 7 (zi 0)])
  (.block 0 (.loop rc88_1)))
  rc88_3))
def rc88 : RC := (.seq (.run [za 4 (.const (.slice none 0 0))])
  (.seq (.run [zr 10 (.mv (zt 0)), zc 11 102 [(zt 10)], za 5 (zt 11)])
  (.seq (.seq (.run [zr 12 (.mv (zt 1)), zr 13 (.bin .lss (zt 12) (zi 0)), zr 14 (.mv (zt 13)), zg 15 14 false (.mv (zt 1)), zg 16 14 false (.mv (zt 5)), zg 17 14 false (.bin .gtr (zt 15) (zt 16)), zr 18 (.pick (zt 14) (.const (.bool true)) (zt 17))])
  (.cond (zt 18)
  (.run [zr 19 (.mv (zt 5)), za 1 (zt 19)])
  .skip))
  rc88_4)))
def ce88 : List (Nat × List Nat × List Nat) := []
def ro88 : List RO := [(.mv (zt 4))]
theorem ok88 : okFn Tryz.prog 88 50 ce88 = some (rc88, ro88) := by kernel_rfl
def rc89_0 : RC := (.seq (.run [zr 26 (.mv (zt 5)), zr 27 (.bin .add (zt 26) (zi 1)), za 5 (zt 27)])
  (.run [zr 28 (.mv (zt 0)), zr 29 (.mv (zt 6)), zr 30 (.mv (zt 1)), zr 31 (.lens (zt 30)), zr 32 (.bin .add (zt 29) (zt 31)), zr 33 (.sls (zt 28) (some (zt 32)) none), za 0 (zt 33)]))
def rc89_1 : RC := (.block 1 (.seq (.run [zr 20 (.mv (zt 0)), zr 21 (.mv (zt 1)), zc 22 90 [(zt 20), (zt 21)], za 6 (zt 22)])
  (.seq (.seq (.run [zr 23 (.mv (zt 6)), zr 24 (.bin .eql (zt 23) (zi (-1)))])
  (.cond (zt 24)
  (.seq (.run [zr 25 (.mv (zt 5)), za 4 (zt 25)])
  .ret)
  .skip))
  rc89_0)))
def rc89_2 : RC := (.seq (.run [za 5 (zi 0)])
  (.block 0 (.loop rc89_1)))
def rc89_3 : RC := (.seq (.seq (.run [zr 13 (.mv (zt 1)), zr 14 (.lens (zt 13)), zr 15 (.bin .eql (zt 14) (zi 1))])
  (.cond (zt 15)
  (.seq (.run [zr 16 (.mv (zt 0)), zr 17 (.mv (zt 1)), zr 18 (.ixs (zt 17) (zi 0)), zc 19 104 [(zt 16), (zt 18)], za 4 (zt 19)])
  .ret)
  .skip))
  rc89_2)
def rc89 : RC := (.seq (.run [za 4 (zi 0)])
  (.seq (.seq (.run [zr 7 (.mv (zt 1)), zr 8 (.lens (zt 7)), zr 9 (.bin .eql (zt 8) (zi 0))])
  (.cond (zt 9)
  (.seq (.run [zr 10 (.mv (zt 0)), zc 11 102 [(zt 10)], zr 12 (.bin .add (zt 11) (zi 1)), za 4 (zt 12)])
  .ret)
  .skip))
  rc89_3))
def ce89 : List (Nat × List Nat × List Nat) := []
def ro89 : List RO := [(.mv (zt 4))]
theorem ok89 : okFn Tryz.prog 89 34 ce89 = some (rc89, ro89) := by kernel_rfl
def rc90 : RC := (.seq (.run [za 4 (zi 0)])
  (.seq (.run [zr 5 (.mv (zt 0)), zr 6 (.mv (zt 1)), zc 7 105 [(zt 5), (zt 6)], za 4 (zt 7)])
  .ret))
def ce90 : List (Nat × List Nat × List Nat) := []
def ro90 : List RO := [(.mv (zt 4))]
theorem ok90 : okFn Tryz.prog 90 8 ce90 = some (rc90, ro90) := by kernel_rfl
def rc91_0 : RC := (.seq (.run [zr 144 (.mv (zt 13)), zr 145 (.mv (zt 1)), zr 146 (.cvi .u64 (zt 145)), zr 147 (.bin .mul (zt 144) (zt 146)), za 13 (zt 147)])
  (.seq (.run [zr 148 (.mv (zt 13)), zr 149 (.mv (zt 16)), zr 150 (.cvi .u64 (zt 149)), zr 151 (.bin .add (zt 148) (zt 150)), za 17 (zt 151)])
  (.seq (.seq (.run [zr 152 (.mv (zt 17)), zr 153 (.mv (zt 13)), zr 154 (.bin .lss (zt 152) (zt 153)), zr 155 (.mv (zt 154)), zg 156 155 false (.mv (zt 17)), zg 157 155 false (.mv (zt 11)), zg 158 155 false (.bin .gtr (zt 156) (zt 157)), zr 159 (.pick (zt 155) (.const (.bool true)) (zt 158))])
  (.cond (zt 159)
  (.seq (.run [zr 160 (.mv (zt 11)), zr 161 (.mki 168 (zi 1)), za 6 (zt 160), za 7 (zt 161)])
  .ret)
  .skip))
  (.run [zr 162 (.mv (zt 17)), za 13 (zt 162)]))))
def rc91_1 : RC := (.seq (.seq (.run [zr 139 (.mv (zt 13)), zr 140 (.mv (zt 10)), zr 141 (.bin .geq (zt 139) (zt 140))])
  (.cond (zt 141)
  (.seq (.run [zr 142 (.mv (zt 11)), zr 143 (.mki 168 (zi 1)), za 6 (zt 142), za 7 (zt 143)])
  .ret)
  .skip))
  rc91_0)
def rc91_2 : RC := (.seq (.seq (.run [zr 134 (.mv (zt 16)), zr 135 (.mv (zt 1)), zr 136 (.cvi .u8 (zt 135)), zr 137 (.bin .geq (zt 134) (zt 136))])
  (.cond (zt 137)
  (.seq (.run [zr 138 (.mki 168 (zi 2)), za 6 (.const (.int .u64 0)), za 7 (zt 138)])
  .ret)
  .skip))
  rc91_1)
def rc91_3 : RC := (.seq (.block 4 (.seq (.run [zr 103 (.ia 1 (zt 99) (zt 101)), zr 104 (.ld (zt 103)), za 15 (zt 104)])
  (.seq (.run [za 16 (.const (.int .u8 0))])
  (.seq (.block 5 (.seq (.run [zr 107 (.mv (zt 15)), zr 108 (.bin .eql (zt 107) (.const (.int .u8 95))), zr 109 (.mv (zt 108)), zg 110 109 true (.mv (zt 8)), zr 111 (.pick (zt 109) (zt 110) (.const (.bool false))), za 106 (zt 111)])
  (.cond (zt 106)
  (.seq (.run [za 12 (.const (.bool true))])
  (.exit 4))
  (.seq (.run [zr 113 (.mv (zt 15)), zr 114 (.bin .leq (.const (.int .u8 48)) (zt 113)), zr 115 (.mv (zt 114)), zg 116 115 true (.mv (zt 15)), zg 117 115 true (.bin .leq (zt 116) (.const (.int .u8 57))), zr 118 (.pick (zt 115) (zt 117) (.const (.bool false))), za 112 (zt 118)])
  (.cond (zt 112)
  (.run [zr 119 (.mv (zt 15)), zr 120 (.bin .sub (zt 119) (.const (.int .u8 48))), za 16 (zt 120)])
  (.seq (.run [zr 122 (.mv (zt 15)), zc 123 106 [(zt 122)], zr 124 (.bin .leq (.const (.int .u8 97)) (zt 123)), zr 125 (.mv (zt 124)), zg 126 125 true (.mv (zt 15)), ⟨(some 127), (some (125, true)), (.c (.fn 106 [(zt 126)])), []⟩, zg 128 125 true (.bin .leq (zt 127) (.const (.int .u8 122))), zr 129 (.pick (zt 125) (zt 128) (.const (.bool false))), za 121 (zt 129)])
  (.cond (zt 121)
  (.run [zr 130 (.mv (zt 15)), zc 131 106 [(zt 130)], zr 132 (.bin .sub (zt 131) (.const (.int .u8 97))), zr 133 (.bin .add (zt 132) (.const (.int .u8 10))), za 16 (zt 133)])
  (.seq (.run [zr 105 (.mki 168 (zi 2)), za 6 (.const (.int .u64 0)), za 7 (zt 105)])
  .ret))))))))
  rc91_2))))
  (.run [zr 163 (.bin .add (zt 101) (zi 1)), zr 101 (.mv (zt 163))]))
def rc91_4 : RC := (.seq (.run [zr 102 (.bin .lss (zt 101) (zt 100))])
  (.seq (.cond (zt 102)
  .skip
  (.exit 3))
  rc91_3))
def rc91_5 : RC := (.seq (.run [zr 171 (.mv (zt 13)), za 6 (zt 171), za 7 (.const .nilIface)])
  .ret)
def rc91_6 : RC := (.seq (.seq (.run [zr 164 (.mv (zt 12)), zr 165 (.mv (zt 164)), zg 166 165 true (.mv (zt 9)), ⟨(some 167), (some (165, true)), (.c (.fn 107 [(zt 166)])), []⟩, zg 168 165 true (.not (zt 167)), zr 169 (.pick (zt 165) (zt 168) (.const (.bool false)))])
  (.cond (zt 169)
  (.seq (.run [zr 170 (.mki 168 (zi 2)), za 6 (.const (.int .u64 0)), za 7 (zt 170)])
  .ret)
  .skip))
  rc91_5)
def rc91_7 : RC := (.seq (.run [zr 94 (.mv (zt 2)), zr 95 (.cvi .u64 (zt 94)), zr 96 (.bin .shl (.const (.int .u64 1)) (zt 95)), zr 97 (.bin .sub (zt 96) (.const (.int .u64 1))), za 11 (zt 97)])
  (.seq (.run [za 12 (.const (.bool false))])
  (.seq (.run [za 13 (.const (.int .u64 0))])
  (.seq (.seq (.run [zr 98 (.mv (zt 0)), zf 99 (.s2b 5 (zt 98)), zr 100 (.lenl (zt 99)), zr 101 (.mv (zi 0))])
  (.block 3 (.loop rc91_4)))
  rc91_6))))
def rc91_8 : RC := (.seq (.run [za 10 (.const (.int .u64 0))])
  (.seq (.seq (.run [zr 85 (.mv (zt 1))])
  (.block 2 (.seq (.run [zr 91 (.bin .eql (zt 85) (zi 10)), za 90 (zt 91)])
  (.cond (zt 90)
  (.run [za 10 (.const (.int .u64 1844674407370955162))])
  (.seq (.run [zr 93 (.bin .eql (zt 85) (zi 16)), za 92 (zt 93)])
  (.cond (zt 92)
  (.run [za 10 (.const (.int .u64 1152921504606846976))])
  (.run [zr 86 (.mv (zt 1)), zr 87 (.cvi .u64 (zt 86)), zr 88 (.bin .quo (.const (.int .u64 18446744073709551615)) (zt 87)), zr 89 (.bin .add (zt 88) (.const (.int .u64 1))), za 10 (zt 89)])))))))
  rc91_7))
def rc91_9 : RC := (.seq (.seq (.run [zr 76 (.mv (zt 2)), zr 77 (.bin .eql (zt 76) (zi 0))])
  (.cond (zt 77)
  (.run [za 2 (zi 64)])
  (.seq (.run [zr 78 (.mv (zt 2)), zr 79 (.bin .lss (zt 78) (zi 0)), zr 80 (.mv (zt 79)), zg 81 80 false (.mv (zt 2)), zg 82 80 false (.bin .gtr (zt 81) (zi 64)), zr 83 (.pick (zt 80) (.const (.bool true)) (zt 82))])
  (.cond (zt 83)
  (.seq (.run [zr 84 (.mki 168 (zi 4)), za 6 (.const (.int .u64 0)), za 7 (zt 84)])
  .ret)
  .skip))))
  rc91_8)
def rc91_10 : RC := (.seq (.run [zr 21 (.mv (zt 1)), zr 22 (.bin .eql (zt 21) (zi 0)), za 8 (zt 22)])
  (.seq (.run [zr 23 (.mv (zt 0)), za 9 (zt 23)])
  (.seq (.block 0 (.seq (.run [zr 26 (.mv (zt 1)), zr 27 (.bin .leq (zi 2) (zt 26)), zr 28 (.mv (zt 27)), zg 29 28 true (.mv (zt 1)), zg 30 28 true (.bin .leq (zt 29) (zi 36)), zr 31 (.pick (zt 28) (zt 30) (.const (.bool false))), za 25 (zt 31)])
  (.cond (zt 25)
  .skip
  (.seq (.run [zr 33 (.mv (zt 1)), zr 34 (.bin .eql (zt 33) (zi 0)), za 32 (zt 34)])
  (.cond (zt 32)
  (.seq (.run [za 1 (zi 10)])
  (.seq (.run [zr 35 (.mv (zt 0)), zr 36 (.ixs (zt 35) (zi 0)), zr 37 (.bin .eql (zt 36) (.const (.int .u8 48)))])
  (.cond (zt 37)
  (.block 1 (.seq (.run [zr 41 (.mv (zt 0)), zr 42 (.lens (zt 41)), zr 43 (.bin .geq (zt 42) (zi 3)), zr 44 (.mv (zt 43)), zg 45 44 true (.mv (zt 0)), zg 46 44 true (.ixs (zt 45) (zi 1)), ⟨(some 47), (some (44, true)), (.c (.fn 106 [(zt 46)])), []⟩, zg 48 44 true (.bin .eql (zt 47) (.const (.int .u8 98))), zr 49 (.pick (zt 44) (zt 48) (.const (.bool false))), za 40 (zt 49)])
  (.cond (zt 40)
  (.seq (.run [za 1 (zi 2)])
  (.run [zr 50 (.mv (zt 0)), zr 51 (.sls (zt 50) (some (zi 2)) none), za 0 (zt 51)]))
  (.seq (.run [zr 53 (.mv (zt 0)), zr 54 (.lens (zt 53)), zr 55 (.bin .geq (zt 54) (zi 3)), zr 56 (.mv (zt 55)), zg 57 56 true (.mv (zt 0)), zg 58 56 true (.ixs (zt 57) (zi 1)), ⟨(some 59), (some (56, true)), (.c (.fn 106 [(zt 58)])), []⟩, zg 60 56 true (.bin .eql (zt 59) (.const (.int .u8 111))), zr 61 (.pick (zt 56) (zt 60) (.const (.bool false))), za 52 (zt 61)])
  (.cond (zt 52)
  (.seq (.run [za 1 (zi 8)])
  (.run [zr 62 (.mv (zt 0)), zr 63 (.sls (zt 62) (some (zi 2)) none), za 0 (zt 63)]))
  (.seq (.run [zr 65 (.mv (zt 0)), zr 66 (.lens (zt 65)), zr 67 (.bin .geq (zt 66) (zi 3)), zr 68 (.mv (zt 67)), zg 69 68 true (.mv (zt 0)), zg 70 68 true (.ixs (zt 69) (zi 1)), ⟨(some 71), (some (68, true)), (.c (.fn 106 [(zt 70)])), []⟩, zg 72 68 true (.bin .eql (zt 71) (.const (.int .u8 120))), zr 73 (.pick (zt 68) (zt 72) (.const (.bool false))), za 64 (zt 73)])
  (.cond (zt 64)
  (.seq (.run [za 1 (zi 16)])
  (.run [zr 74 (.mv (zt 0)), zr 75 (.sls (zt 74) (some (zi 2)) none), za 0 (zt 75)]))
  (.seq (.run [za 1 (zi 8)])
  (.run [zr 38 (.mv (zt 0)), zr 39 (.sls (zt 38) (some (zi 1)) none), za 0 (zt 39)])))))))))
  .skip)))
  (.seq (.run [zr 24 (.mki 168 (zi 3)), za 6 (.const (.int .u64 0)), za 7 (zt 24)])
  .ret))))))
  rc91_9)))
def rc91 : RC := (.seq (.run [za 6 (.const (.int .u64 0)), za 7 (.const .nilIface)])
  (.seq (.seq (.run [zr 18 (.mv (zt 0)), zr 19 (.bin .eql (zt 18) (.const (.string ⟨#[]⟩)))])
  (.cond (zt 19)
  (.seq (.run [zr 20 (.mki 168 (zi 2)), za 6 (.const (.int .u64 0)), za 7 (zt 20)])
  .ret)
  .skip))
  rc91_10))
def ce91 : List (Nat × List Nat × List Nat) := []
def ro91 : List RO := [(.mv (zt 6)), (.mv (zt 7))]
theorem ok91 : okFn Tryz.prog 91 172 ce91 = some (rc91, ro91) := by kernel_rfl
def rc92_0 : RC := (.seq (.run [zr 42 (.mv (zt 4)), za 10 (zt 42)])
  .ret)
def rc92 : RC := (.seq (.run [za 10 (.const .nilIface)])
  (.seq (.seq (.run [zr 11 (.mv (zt 4))])
  (.block 0 (.seq (.run [zr 13 (.mki 168 (zi 2)), zr 14 (.ieq false [2, 3, 5, 6, 12, 21, 22, 41, 50, 85, 100, 108, 110, 168, 198, 199, 201, 202] (zt 11) (zt 13)), za 12 (zt 14)])
  (.cond (zt 12)
  (.seq (.run [zr 15 (.mv (zt 0)), zr 16 (.mv (zt 1)), zc 17 108 [(zt 15), (zt 16)], zr 18 (.mki 170 (zt 17)), za 10 (zt 18)])
  .ret)
  (.seq (.run [zr 20 (.mki 168 (zi 1)), zr 21 (.ieq false [2, 3, 5, 6, 12, 21, 22, 41, 50, 85, 100, 108, 110, 168, 198, 199, 201, 202] (zt 11) (zt 20)), za 19 (zt 21)])
  (.cond (zt 19)
  (.seq (.run [zr 22 (.mv (zt 0)), zr 23 (.mv (zt 1)), zc 24 109 [(zt 22), (zt 23)], zr 25 (.mki 170 (zt 24)), za 10 (zt 25)])
  .ret)
  (.seq (.run [zr 27 (.mki 168 (zi 3)), zr 28 (.ieq false [2, 3, 5, 6, 12, 21, 22, 41, 50, 85, 100, 108, 110, 168, 198, 199, 201, 202] (zt 11) (zt 27)), za 26 (zt 28)])
  (.cond (zt 26)
  (.seq (.run [zr 29 (.mv (zt 0)), zr 30 (.mv (zt 1)), zr 31 (.mv (zt 2)), zc 32 110 [(zt 29), (zt 30), (zt 31)], zr 33 (.mki 170 (zt 32)), za 10 (zt 33)])
  .ret)
  (.seq (.run [zr 35 (.mki 168 (zi 4)), zr 36 (.ieq false [2, 3, 5, 6, 12, 21, 22, 41, 50, 85, 100, 108, 110, 168, 198, 199, 201, 202] (zt 11) (zt 35)), za 34 (zt 36)])
  (.cond (zt 34)
  (.seq (.run [zr 37 (.mv (zt 0)), zr 38 (.mv (zt 1)), zr 39 (.mv (zt 3)), zc 40 111 [(zt 37), (zt 38), (zt 39)], zr 41 (.mki 170 (zt 40)), za 10 (zt 41)])
  .ret)
  .skip))))))))))
  rc92_0))
def ce92 : List (Nat × List Nat × List Nat) := []
def ro92 : List RO := [(.mv (zt 10))]
theorem ok92 : okFn Tryz.prog 92 43 ce92 = some (rc92, ro92) := by kernel_rfl
def rc93_0 : RC := (.seq (.run [zr 5 (.mv (zt 0)), zr 6 (.mv (zt 0)), zr 7 (.neg (zt 6)), zr 8 (.bin .and (zt 5) (zt 7)), zr 9 (.bin .mul (zt 8) (.const (.int .u32 125613361))), zr 10 (.bin .shr (zt 9) (.const (.int .u64 27))), zr 11 (.iaa 32 1 (.global 1) (zt 10)), zr 12 (.ld (zt 11)), zr 13 (.cvi .i64 (zt 12)), za 2 (zt 13)])
  .ret)
def rc93 : RC := (.seq (.run [za 2 (zi 0)])
  (.seq (.seq (.run [zr 3 (.mv (zt 0)), zr 4 (.bin .eql (zt 3) (.const (.int .u32 0)))])
  (.cond (zt 4)
  (.seq (.run [za 2 (zi 32)])
  .ret)
  .skip))
  rc93_0))
def ce93 : List (Nat × List Nat × List Nat) := []
def ro93 : List RO := [(.mv (zt 2))]
theorem ok93 : okFn Tryz.prog 93 14 ce93 = some (rc93, ro93) := by kernel_rfl
def rc94_0 : RC := (.seq (.run [zr 5 (.mv (zt 0)), zr 6 (.mv (zt 0)), zr 7 (.neg (zt 6)), zr 8 (.bin .and (zt 5) (zt 7)), zr 9 (.bin .mul (zt 8) (.const (.int .u64 285870213051353865))), zr 10 (.bin .shr (zt 9) (.const (.int .u64 58))), zr 11 (.iaa 64 1 (.global 2) (zt 10)), zr 12 (.ld (zt 11)), zr 13 (.cvi .i64 (zt 12)), za 2 (zt 13)])
  .ret)
def rc94 : RC := (.seq (.run [za 2 (zi 0)])
  (.seq (.seq (.run [zr 3 (.mv (zt 0)), zr 4 (.bin .eql (zt 3) (.const (.int .u64 0)))])
  (.cond (zt 4)
  (.seq (.run [za 2 (zi 64)])
  .ret)
  .skip))
  rc94_0))
def ce94 : List (Nat × List Nat × List Nat) := []
def ro94 : List RO := [(.mv (zt 2))]
theorem ok94 : okFn Tryz.prog 94 14 ce94 = some (rc94, ro94) := by kernel_rfl
def rc102_0 : RC := (.block 1 (.run [zr 7 (.mv (zt 2)), zr 8 (.bin .add (zt 7) (zi 1)), za 2 (zt 8)]))
def rc102_1 : RC := (.seq (.run [⟨(some 5), none, .bad, []⟩, zr 6 (.ext 0 (zt 5))])
  (.seq (.cond (zt 6)
  .skip
  (.exit 0))
  rc102_0))
def rc102_2 : RC := (.seq (.run [zr 9 (.mv (zt 2)), za 2 (zt 9)])
  .ret)
def rc102 : RC := (.seq (.run [za 2 (zi 0)])
  (.seq (.seq (.run [zr 3 (.mv (zt 0)), ⟨(some 4), none, .bad, []⟩])
  (.block 0 (.loop rc102_1)))
  rc102_2))
def ce102 : List (Nat × List Nat × List Nat) := []
def ro102 : List RO := [(.mv (zt 2))]
theorem ok102 : okFn Tryz.prog 102 10 ce102 = some (rc102, ro102) := by kernel_rfl
def rc103 : RC := (.seq (.run [za 2 (.const (.int .i32 0)), za 3 (zi 0)])
  (.seq (.seq (.run [zr 4 (.mv (zt 0)), zr 5 (.bin .neq (zt 4) (.const (.string ⟨#[]⟩))), zr 6 (.mv (zt 5)), zg 7 6 true (.mv (zt 0)), zg 8 6 true (.ixs (zt 7) (zi 0)), zg 9 6 true (.bin .lss (zt 8) (.const (.int .u8 128))), zr 10 (.pick (zt 6) (zt 9) (.const (.bool false)))])
  (.cond (zt 10)
  (.seq (.run [zr 11 (.mv (zt 0)), zr 12 (.ixs (zt 11) (zi 0)), zr 13 (.cvi .i32 (zt 12)), za 2 (zt 13), za 3 (zi 1)])
  .ret)
  (.run [zr 15 (.mv (zt 0)), zc 16 116 [(zt 15)], zr 14 (.mv (zt 16)), zr 17 (.ext 0 (zt 14)), zr 18 (.ext 1 (zt 14)), za 2 (zt 17), za 3 (zt 18)])))
  .ret))
def ce103 : List (Nat × List Nat × List Nat) := []
def ro103 : List RO := [(.mv (zt 2)), (.mv (zt 3))]
theorem ok103 : okFn Tryz.prog 103 19 ce103 = some (rc103, ro103) := by kernel_rfl
def rc105_0 : RC := (.seq (.run [za 4 (zi (-1))])
  .ret)
def rc105_1 : RC := (.seq (.run [zr 140 (.mv (zt 8)), zr 141 (.mv (zt 13)), zr 142 (.bin .add (zt 140) (zt 141)), za 4 (zt 142)])
  .ret)
def rc105_2 : RC := (.seq (.run [zr 95 (.mv (zt 8)), zr 96 (.bin .add (zt 95) (zi 1)), za 8 (zt 96)])
  (.seq (.run [zr 97 (.mv (zt 10)), zr 98 (.bin .add (zt 97) (zi 1)), za 10 (zt 98)])
  (.seq (.run [zr 99 (.mv (zt 5)), zr 100 (.ld (.global 3)), zr 101 (.bin .leq (zt 99) (zt 100)), zr 102 (.mv (zt 101)), zg 103 102 true (.mv (zt 10)), zg 104 102 true (.mv (zt 8)), ⟨(some 105), (some (102, true)), (.c (.fn 119 [(zt 104)])), []⟩, zg 106 102 true (.bin .gtr (zt 103) (zt 105)), zr 107 (.pick (zt 102) (zt 106) (.const (.bool false)))])
  (.cond (zt 107)
  (.seq (.run [zr 108 (.mv (zt 0)), zr 109 (.mv (zt 8)), zr 110 (.sls (zt 108) (some (zt 109)) none), zr 111 (.mv (zt 1)), zc 112 118 [(zt 110), (zt 111)], za 12 (zt 112)])
  (.seq (.seq (.run [zr 113 (.mv (zt 12)), zr 114 (.bin .geq (zt 113) (zi 0))])
  (.cond (zt 114)
  (.seq (.run [zr 115 (.mv (zt 12)), zr 116 (.mv (zt 8)), zr 117 (.bin .add (zt 115) (zt 116)), za 4 (zt 117)])
  .ret)
  .skip))
  rc105_0))
  (.seq (.run [zr 118 (.mv (zt 5)), zr 119 (.ld (.global 3)), zr 120 (.bin .gtr (zt 118) (zt 119)), zr 121 (.mv (zt 120)), zg 122 121 true (.mv (zt 10)), zg 123 121 true (.mv (zt 8)), zg 124 121 true (.bin .shr (zt 123) (.const (.int .u64 4))), zg 125 121 true (.bin .add (zi 4) (zt 124)), zg 126 121 true (.bin .geq (zt 122) (zt 125)), zr 127 (.pick (zt 121) (zt 126) (.const (.bool false))), zr 128 (.mv (zt 127)), zg 129 128 true (.mv (zt 8)), zg 130 128 true (.mv (zt 9)), zg 131 128 true (.bin .lss (zt 129) (zt 130)), zr 132 (.pick (zt 128) (zt 131) (.const (.bool false)))])
  (.cond (zt 132)
  (.seq (.run [zr 133 (.mv (zt 0)), zr 134 (.mv (zt 8)), zr 135 (.sls (zt 133) (some (zt 134)) none), zr 136 (.mv (zt 1)), zc 137 120 [(zt 135), (zt 136)], za 13 (zt 137)])
  (.seq (.seq (.run [zr 138 (.mv (zt 13)), zr 139 (.bin .lss (zt 138) (zi 0))])
  (.cond (zt 139)
  (.seq (.run [za 4 (zi (-1))])
  .ret)
  .skip))
  rc105_1))
  .skip))))))
def rc105_3 : RC := (.seq (.seq (.run [zr 78 (.mv (zt 0)), zr 79 (.mv (zt 8)), zr 80 (.bin .add (zt 79) (zi 1)), zr 81 (.ixs (zt 78) (zt 80)), zr 82 (.mv (zt 7)), zr 83 (.bin .eql (zt 81) (zt 82)), zr 84 (.mv (zt 83)), zg 85 84 true (.mv (zt 0)), zg 86 84 true (.mv (zt 8)), zg 87 84 true (.mv (zt 8)), zg 88 84 true (.mv (zt 5)), zg 89 84 true (.bin .add (zt 87) (zt 88)), zg 90 84 true (.sls (zt 85) (some (zt 86)) (some (zt 89))), zg 91 84 true (.mv (zt 1)), zg 92 84 true (.bin .eql (zt 90) (zt 91)), zr 93 (.pick (zt 84) (zt 92) (.const (.bool false)))])
  (.cond (zt 93)
  (.seq (.run [zr 94 (.mv (zt 8)), za 4 (zt 94)])
  .ret)
  .skip))
  rc105_2)
def rc105_4 : RC := (.block 2 (.seq (.seq (.run [zr 60 (.mv (zt 0)), zr 61 (.mv (zt 8)), zr 62 (.ixs (zt 60) (zt 61)), zr 63 (.mv (zt 6)), zr 64 (.bin .neq (zt 62) (zt 63))])
  (.cond (zt 64)
  (.seq (.run [zr 65 (.mv (zt 0)), zr 66 (.mv (zt 8)), zr 67 (.bin .add (zt 66) (zi 1)), zr 68 (.mv (zt 9)), zr 69 (.sls (zt 65) (some (zt 67)) (some (zt 68))), zr 70 (.mv (zt 6)), zc 71 117 [(zt 69), (zt 70)], za 11 (zt 71)])
  (.seq (.seq (.run [zr 72 (.mv (zt 11)), zr 73 (.bin .lss (zt 72) (zi 0))])
  (.cond (zt 73)
  (.seq (.run [za 4 (zi (-1))])
  .ret)
  .skip))
  (.run [zr 74 (.mv (zt 8)), zr 75 (.mv (zt 11)), zr 76 (.bin .add (zt 75) (zi 1)), zr 77 (.bin .add (zt 74) (zt 76)), za 8 (zt 77)])))
  .skip))
  rc105_3))
def rc105_5 : RC := (.seq (.seq (.run [zr 57 (.mv (zt 8)), zr 58 (.mv (zt 9)), zr 59 (.bin .lss (zt 57) (zt 58))])
  (.cond (zt 59)
  .skip
  (.exit 1)))
  rc105_4)
def rc105_6 : RC := (.seq (.run [zr 48 (.mv (zt 1)), zr 49 (.ixs (zt 48) (zi 0)), za 6 (zt 49)])
  (.seq (.run [zr 50 (.mv (zt 1)), zr 51 (.ixs (zt 50) (zi 1)), za 7 (zt 51)])
  (.seq (.run [za 8 (zi 0)])
  (.seq (.run [zr 52 (.mv (zt 0)), zr 53 (.lens (zt 52)), zr 54 (.mv (zt 5)), zr 55 (.bin .sub (zt 53) (zt 54)), zr 56 (.bin .add (zt 55) (zi 1)), za 9 (zt 56)])
  (.seq (.run [za 10 (zi 0)])
  (.seq (.block 1 (.loop rc105_5))
  rc105_0))))))
def rc105 : RC := (.seq (.run [za 4 (zi 0)])
  (.seq (.run [zr 14 (.mv (zt 1)), zr 15 (.lens (zt 14)), za 5 (zt 15)])
  (.seq (.block 0 (.seq (.run [zr 17 (.mv (zt 5)), zr 18 (.bin .eql (zt 17) (zi 0)), zr 19 (.mv (zt 18)), zg 20 19 false (.mv (zt 1)), zg 21 19 false (.mv (zt 0)), zg 22 19 false (.bin .eql (zt 20) (zt 21)), zr 23 (.pick (zt 19) (.const (.bool true)) (zt 22)), za 16 (zt 23)])
  (.cond (zt 16)
  (.seq (.run [za 4 (zi 0)])
  .ret)
  (.seq (.run [zr 25 (.mv (zt 5)), zr 26 (.bin .eql (zt 25) (zi 1)), za 24 (zt 26)])
  (.cond (zt 24)
  (.seq (.run [zr 27 (.mv (zt 0)), zr 28 (.mv (zt 1)), zr 29 (.ixs (zt 28) (zi 0)), zc 30 117 [(zt 27), (zt 29)], za 4 (zt 30)])
  .ret)
  (.seq (.run [zr 32 (.mv (zt 5)), zr 33 (.mv (zt 0)), zr 34 (.lens (zt 33)), zr 35 (.bin .geq (zt 32) (zt 34)), za 31 (zt 35)])
  (.cond (zt 31)
  (.seq (.run [za 4 (zi (-1))])
  .ret)
  (.seq (.run [zr 37 (.mv (zt 5)), zr 38 (.ld (.global 3)), zr 39 (.bin .leq (zt 37) (zt 38)), zr 40 (.mv (zt 39)), zg 41 40 true (.mv (zt 0)), zg 42 40 true (.lens (zt 41)), zg 43 40 true (.bin .leq (zt 42) (zi 64)), zr 44 (.pick (zt 40) (zt 43) (.const (.bool false))), za 36 (zt 44)])
  (.cond (zt 36)
  (.seq (.run [zr 45 (.mv (zt 0)), zr 46 (.mv (zt 1)), zc 47 118 [(zt 45), (zt 46)], za 4 (zt 47)])
  .ret)
  .skip)))))))))
  rc105_6)))
def ce105 : List (Nat × List Nat × List Nat) := []
def ro105 : List RO := [(.mv (zt 4))]
theorem ok105 : okFn Tryz.prog 105 143 ce105 = some (rc105, ro105) := by kernel_rfl
def rc106 : RC := (.seq (.run [za 2 (.const (.int .u8 0))])
  (.seq (.run [zr 3 (.mv (zt 0)), zr 4 (.bin .or (zt 3) (.const (.int .u8 32))), za 2 (zt 4)])
  .ret))
def ce106 : List (Nat × List Nat × List Nat) := []
def ro106 : List RO := [(.mv (zt 2))]
theorem ok106 : okFn Tryz.prog 106 5 ce106 = some (rc106, ro106) := by kernel_rfl
def rc107_0 : RC := (.seq (.run [za 3 (.const (.int .i32 95))])
  (.exit 1))
def rc107_1 : RC := (.seq (.seq (.run [zr 90 (.mv (zt 3)), zr 91 (.bin .eql (zt 90) (.const (.int .i32 95)))])
  (.cond (zt 91)
  (.seq (.run [za 2 (.const (.bool false))])
  .ret)
  .skip))
  (.run [za 3 (.const (.int .i32 33))]))
def rc107_2 : RC := (.seq (.seq (.run [zr 84 (.mv (zt 0)), zr 85 (.mv (zt 4)), zr 86 (.ixs (zt 84) (zt 85)), zr 87 (.bin .eql (zt 86) (.const (.int .u8 95)))])
  (.cond (zt 87)
  (.seq (.seq (.run [zr 88 (.mv (zt 3)), zr 89 (.bin .neq (zt 88) (.const (.int .i32 48)))])
  (.cond (zt 89)
  (.seq (.run [za 2 (.const (.bool false))])
  .ret)
  .skip))
  rc107_0)
  .skip))
  rc107_1)
def rc107_3 : RC := (.seq (.block 1 (.seq (.seq (.run [zr 57 (.mv (zt 0)), zr 58 (.mv (zt 4)), zr 59 (.ixs (zt 57) (zt 58)), zr 60 (.bin .leq (.const (.int .u8 48)) (zt 59)), zr 61 (.mv (zt 60)), zg 62 61 true (.mv (zt 0)), zg 63 61 true (.mv (zt 4)), zg 64 61 true (.ixs (zt 62) (zt 63)), zg 65 61 true (.bin .leq (zt 64) (.const (.int .u8 57))), zr 66 (.pick (zt 61) (zt 65) (.const (.bool false))), zr 67 (.mv (zt 66)), zg 68 67 false (.mv (zt 5)), zg 69 67 false (.mv (zt 68)), zg 70 69 true (.mv (zt 0)), zg 71 69 true (.mv (zt 4)), zg 72 69 true (.ixs (zt 70) (zt 71)), ⟨(some 73), (some (69, true)), (.c (.fn 106 [(zt 72)])), []⟩, zg 74 69 true (.bin .leq (.const (.int .u8 97)) (zt 73)), zg 75 67 false (.pick (zt 69) (zt 74) (.const (.bool false))), zg 76 67 false (.mv (zt 75)), zg 77 76 true (.mv (zt 0)), zg 78 76 true (.mv (zt 4)), zg 79 76 true (.ixs (zt 77) (zt 78)), ⟨(some 80), (some (76, true)), (.c (.fn 106 [(zt 79)])), []⟩, zg 81 76 true (.bin .leq (zt 80) (.const (.int .u8 102))), zg 82 67 false (.pick (zt 76) (zt 81) (.const (.bool false))), zr 83 (.pick (zt 67) (.const (.bool true)) (zt 82))])
  (.cond (zt 83)
  (.seq (.run [za 3 (.const (.int .i32 48))])
  (.exit 1))
  .skip))
  rc107_2))
  (.run [zr 55 (.mv (zt 4)), zr 56 (.bin .add (zt 55) (zi 1)), za 4 (zt 56)]))
def rc107_4 : RC := (.seq (.seq (.run [zr 51 (.mv (zt 4)), zr 52 (.mv (zt 0)), zr 53 (.lens (zt 52)), zr 54 (.bin .lss (zt 51) (zt 53))])
  (.cond (zt 54)
  .skip
  (.exit 0)))
  rc107_3)
def rc107_5 : RC := (.seq (.run [zr 92 (.mv (zt 3)), zr 93 (.bin .neq (zt 92) (.const (.int .i32 95))), za 2 (zt 93)])
  .ret)
def rc107_6 : RC := (.seq (.block 0 (.loop rc107_4))
  rc107_5)
def rc107_7 : RC := (.seq (.run [za 5 (.const (.bool false))])
  (.seq (.seq (.run [zr 21 (.mv (zt 0)), zr 22 (.lens (zt 21)), zr 23 (.bin .geq (zt 22) (zi 2)), zr 24 (.mv (zt 23)), zg 25 24 true (.mv (zt 0)), zg 26 24 true (.ixs (zt 25) (zi 0)), zg 27 24 true (.bin .eql (zt 26) (.const (.int .u8 48))), zr 28 (.pick (zt 24) (zt 27) (.const (.bool false))), zr 29 (.mv (zt 28)), zg 30 29 true (.mv (zt 0)), zg 31 29 true (.ixs (zt 30) (zi 1)), ⟨(some 32), (some (29, true)), (.c (.fn 106 [(zt 31)])), []⟩, zg 33 29 true (.bin .eql (zt 32) (.const (.int .u8 98))), zg 34 29 true (.mv (zt 33)), zg 35 34 false (.mv (zt 0)), zg 36 34 false (.ixs (zt 35) (zi 1)), ⟨(some 37), (some (34, false)), (.c (.fn 106 [(zt 36)])), []⟩, zg 38 34 false (.bin .eql (zt 37) (.const (.int .u8 111))), zg 39 29 true (.pick (zt 34) (.const (.bool true)) (zt 38)), zg 40 29 true (.mv (zt 39)), zg 41 40 false (.mv (zt 0)), zg 42 40 false (.ixs (zt 41) (zi 1)), ⟨(some 43), (some (40, false)), (.c (.fn 106 [(zt 42)])), []⟩, zg 44 40 false (.bin .eql (zt 43) (.const (.int .u8 120))), zg 45 29 true (.pick (zt 40) (.const (.bool true)) (zt 44)), zr 46 (.pick (zt 29) (zt 45) (.const (.bool false)))])
  (.cond (zt 46)
  (.seq (.run [za 4 (zi 2)])
  (.seq (.run [za 3 (.const (.int .i32 48))])
  (.run [zr 47 (.mv (zt 0)), zr 48 (.ixs (zt 47) (zi 1)), zc 49 106 [(zt 48)], zr 50 (.bin .eql (zt 49) (.const (.int .u8 120))), za 5 (zt 50)])))
  .skip))
  rc107_6))
def rc107 : RC := (.seq (.run [za 2 (.const (.bool false))])
  (.seq (.run [za 3 (.const (.int .i32 94))])
  (.seq (.run [za 4 (zi 0)])
  (.seq (.seq (.run [zr 6 (.mv (zt 0)), zr 7 (.lens (zt 6)), zr 8 (.bin .geq (zt 7) (zi 1)), zr 9 (.mv (zt 8)), zg 10 9 true (.mv (zt 0)), zg 11 9 true (.ixs (zt 10) (zi 0)), zg 12 9 true (.bin .eql (zt 11) (.const (.int .u8 45))), zg 13 9 true (.mv (zt 12)), zg 14 13 false (.mv (zt 0)), zg 15 13 false (.ixs (zt 14) (zi 0)), zg 16 13 false (.bin .eql (zt 15) (.const (.int .u8 43))), zg 17 9 true (.pick (zt 13) (.const (.bool true)) (zt 16)), zr 18 (.pick (zt 9) (zt 17) (.const (.bool false)))])
  (.cond (zt 18)
  (.run [zr 19 (.mv (zt 0)), zr 20 (.sls (zt 19) (some (zi 1)) none), za 0 (zt 20)])
  .skip))
  rc107_7))))
def ce107 : List (Nat × List Nat × List Nat) := []
def ro107 : List RO := [(.mv (zt 2))]
theorem ok107 : okFn Tryz.prog 107 94 ce107 = some (rc107, ro107) := by kernel_rfl
def rc108 : RC := (.seq (.run [za 4 (.const (.pointer none))])
  (.seq (.run [zr 5 (.mv (zt 0)), zr 6 (.mv (zt 1)), zr 8 (.ld (.global 4)), ⟨(some 7), none, (.c (.fn 121 [(zt 6)])), [(8, none, .ld (.global 4))]⟩, zr 9 (.bld [(.string ⟨#[]⟩), (.string ⟨#[]⟩), .nilIface] [(0, 1, (zt 5)), (1, 1, (zt 7)), (2, 1, (zt 8))]), zf 10 (.bx 178 (zt 9)), za 4 (zt 10)])
  .ret))
def ce108 : List (Nat × List Nat × List Nat) := [(1, [0, 1, 3, 2, 4, 5, 6], [0, 0, 2, 0, 15, 31, 63])]
def ro108 : List RO := [(.mv (zt 4))]
theorem ok108 : okFn Tryz.prog 108 11 ce108 = some (rc108, ro108) := by kernel_rfl
def rc109 : RC := (.seq (.run [za 4 (.const (.pointer none))])
  (.seq (.run [zr 5 (.mv (zt 0)), zr 6 (.mv (zt 1)), zr 8 (.ld (.global 5)), ⟨(some 7), none, (.c (.fn 121 [(zt 6)])), [(8, none, .ld (.global 5))]⟩, zr 9 (.bld [(.string ⟨#[]⟩), (.string ⟨#[]⟩), .nilIface] [(0, 1, (zt 5)), (1, 1, (zt 7)), (2, 1, (zt 8))]), zf 10 (.bx 178 (zt 9)), za 4 (zt 10)])
  .ret))
def ce109 : List (Nat × List Nat × List Nat) := [(1, [0, 1, 3, 2, 4, 5, 6], [0, 0, 2, 0, 15, 31, 63])]
def ro109 : List RO := [(.mv (zt 4))]
theorem ok109 : okFn Tryz.prog 109 11 ce109 = some (rc109, ro109) := by kernel_rfl
def rc110 : RC := (.seq (.run [za 6 (.const (.pointer none))])
  (.seq (.run [zr 7 (.mv (zt 0)), zr 8 (.mv (zt 1)), zc 9 121 [(zt 8)], zr 10 (.mv (zt 2)), zc 11 123 [(zt 10)], zr 12 (.bin .add (.const (.string ⟨#[105, 110, 118, 97, 108, 105, 100, 32, 98, 97, 115, 101, 32]⟩)) (zt 11)), zc 13 122 [(zt 12)], zr 14 (.bld [(.string ⟨#[]⟩), (.string ⟨#[]⟩), .nilIface] [(0, 1, (zt 7)), (1, 1, (zt 9)), (2, 1, (zt 13))]), zf 15 (.bx 178 (zt 14)), za 6 (zt 15)])
  .ret))
def ce110 : List (Nat × List Nat × List Nat) := []
def ro110 : List RO := [(.mv (zt 6))]
theorem ok110 : okFn Tryz.prog 110 16 ce110 = some (rc110, ro110) := by kernel_rfl
def rc111 : RC := (.seq (.run [za 6 (.const (.pointer none))])
  (.seq (.run [zr 7 (.mv (zt 0)), zr 8 (.mv (zt 1)), zc 9 121 [(zt 8)], zr 10 (.mv (zt 2)), zc 11 123 [(zt 10)], zr 12 (.bin .add (.const (.string ⟨#[105, 110, 118, 97, 108, 105, 100, 32, 98, 105, 116, 32, 115, 105, 122, 101, 32]⟩)) (zt 11)), zc 13 122 [(zt 12)], zr 14 (.bld [(.string ⟨#[]⟩), (.string ⟨#[]⟩), .nilIface] [(0, 1, (zt 7)), (1, 1, (zt 9)), (2, 1, (zt 13))]), zf 15 (.bx 178 (zt 14)), za 6 (zt 15)])
  .ret))
def ce111 : List (Nat × List Nat × List Nat) := []
def ro111 : List RO := [(.mv (zt 6))]
theorem ok111 : okFn Tryz.prog 111 16 ce111 = some (rc111, ro111) := by kernel_rfl
def rc116_0 : RC := (.seq (.run [zr 99 (.mv (zt 5)), zr 100 (.bin .and (zt 99) (.const (.int .u8 7))), zr 101 (.cvi .i32 (zt 100)), zr 102 (.bin .shl (zt 101) (.const (.int .u64 18))), zr 103 (.mv (zt 10)), zr 104 (.bin .and (zt 103) (.const (.int .u8 63))), zr 105 (.cvi .i32 (zt 104)), zr 106 (.bin .shl (zt 105) (.const (.int .u64 12))), zr 107 (.bin .or (zt 102) (zt 106)), zr 108 (.mv (zt 11)), zr 109 (.bin .and (zt 108) (.const (.int .u8 63))), zr 110 (.cvi .i32 (zt 109)), zr 111 (.bin .shl (zt 110) (.const (.int .u64 6))), zr 112 (.bin .or (zt 107) (zt 111)), zr 113 (.mv (zt 12)), zr 114 (.bin .and (zt 113) (.const (.int .u8 63))), zr 115 (.cvi .i32 (zt 114)), zr 116 (.bin .or (zt 112) (zt 115)), za 2 (zt 116), za 3 (zi 4)])
  .ret)
def rc116_1 : RC := (.seq (.run [zr 91 (.mv (zt 0)), zr 92 (.ixs (zt 91) (zi 3)), za 12 (zt 92)])
  (.seq (.seq (.run [zr 93 (.mv (zt 12)), zr 94 (.bin .lss (zt 93) (.const (.int .u8 128))), zr 95 (.mv (zt 94)), zg 96 95 false (.mv (zt 12)), zg 97 95 false (.bin .lss (.const (.int .u8 191)) (zt 96)), zr 98 (.pick (zt 95) (.const (.bool true)) (zt 97))])
  (.cond (zt 98)
  (.seq (.run [za 2 (.const (.int .i32 65533)), za 3 (zi 1)])
  .ret)
  .skip))
  rc116_0))
def rc116_2 : RC := (.seq (.seq (.run [zr 76 (.mv (zt 8)), zr 77 (.bin .leq (zt 76) (zi 3))])
  (.cond (zt 77)
  (.seq (.run [zr 78 (.mv (zt 5)), zr 79 (.bin .and (zt 78) (.const (.int .u8 15))), zr 80 (.cvi .i32 (zt 79)), zr 81 (.bin .shl (zt 80) (.const (.int .u64 12))), zr 82 (.mv (zt 10)), zr 83 (.bin .and (zt 82) (.const (.int .u8 63))), zr 84 (.cvi .i32 (zt 83)), zr 85 (.bin .shl (zt 84) (.const (.int .u64 6))), zr 86 (.bin .or (zt 81) (zt 85)), zr 87 (.mv (zt 11)), zr 88 (.bin .and (zt 87) (.const (.int .u8 63))), zr 89 (.cvi .i32 (zt 88)), zr 90 (.bin .or (zt 86) (zt 89)), za 2 (zt 90), za 3 (zi 3)])
  .ret)
  .skip))
  rc116_1)
def rc116_3 : RC := (.seq (.run [zr 68 (.mv (zt 0)), zr 69 (.ixs (zt 68) (zi 2)), za 11 (zt 69)])
  (.seq (.seq (.run [zr 70 (.mv (zt 11)), zr 71 (.bin .lss (zt 70) (.const (.int .u8 128))), zr 72 (.mv (zt 71)), zg 73 72 false (.mv (zt 11)), zg 74 72 false (.bin .lss (.const (.int .u8 191)) (zt 73)), zr 75 (.pick (zt 72) (.const (.bool true)) (zt 74))])
  (.cond (zt 75)
  (.seq (.run [za 2 (.const (.int .i32 65533)), za 3 (zi 1)])
  .ret)
  .skip))
  rc116_2))
def rc116_4 : RC := (.seq (.seq (.run [zr 58 (.mv (zt 8)), zr 59 (.bin .leq (zt 58) (zi 2))])
  (.cond (zt 59)
  (.seq (.run [zr 60 (.mv (zt 5)), zr 61 (.bin .and (zt 60) (.const (.int .u8 31))), zr 62 (.cvi .i32 (zt 61)), zr 63 (.bin .shl (zt 62) (.const (.int .u64 6))), zr 64 (.mv (zt 10)), zr 65 (.bin .and (zt 64) (.const (.int .u8 63))), zr 66 (.cvi .i32 (zt 65)), zr 67 (.bin .or (zt 63) (zt 66)), za 2 (zt 67), za 3 (zi 2)])
  .ret)
  .skip))
  rc116_3)
def rc116_5 : RC := (.seq (.run [zr 46 (.mv (zt 0)), zr 47 (.ixs (zt 46) (zi 1)), za 10 (zt 47)])
  (.seq (.seq (.run [zr 48 (.mv (zt 10)), zr 49 (.fa 0 (zt 9)), zr 50 (.ld (zt 49)), zr 51 (.bin .lss (zt 48) (zt 50)), zr 52 (.mv (zt 51)), zg 53 52 false (.fa 1 (zt 9)), zg 54 52 false (.ld (zt 53)), zg 55 52 false (.mv (zt 10)), zg 56 52 false (.bin .lss (zt 54) (zt 55)), zr 57 (.pick (zt 52) (.const (.bool true)) (zt 56))])
  (.cond (zt 57)
  (.seq (.run [za 2 (.const (.int .i32 65533)), za 3 (zi 1)])
  .ret)
  .skip))
  rc116_4))
def rc116_6 : RC := (.seq (.run [zr 36 (.mv (zt 6)), zr 37 (.bin .and (zt 36) (.const (.int .u8 7))), zr 38 (.cvi .i64 (zt 37)), za 8 (zt 38)])
  (.seq (.run [zr 39 (.mv (zt 6)), zr 40 (.bin .shr (zt 39) (.const (.int .u64 4))), zr 41 (.iaa 16 2 (.global 7) (zt 40)), zr 42 (.ldn 2 (zt 41)), zf 9 (.al [(.int .u8 0), (.int .u8 0)] 183), ze (.st 2 (zt 9) (zt 42))])
  (.seq (.seq (.run [zr 43 (.mv (zt 4)), zr 44 (.mv (zt 8)), zr 45 (.bin .lss (zt 43) (zt 44))])
  (.cond (zt 45)
  (.seq (.run [za 2 (.const (.int .i32 65533)), za 3 (zi 1)])
  .ret)
  .skip))
  rc116_5)))
def rc116_7 : RC := (.seq (.run [zr 17 (.mv (zt 0)), zr 18 (.ixs (zt 17) (zi 0)), za 5 (zt 18)])
  (.seq (.run [zr 19 (.mv (zt 5)), zr 20 (.iaa 256 1 (.global 6) (zt 19)), zr 21 (.ld (zt 20)), za 6 (zt 21)])
  (.seq (.seq (.run [zr 22 (.mv (zt 6)), zr 23 (.bin .geq (zt 22) (.const (.int .u8 240)))])
  (.cond (zt 23)
  (.seq (.run [zr 24 (.mv (zt 6)), zr 25 (.cvi .i32 (zt 24)), zr 26 (.bin .shl (zt 25) (.const (.int .u64 31))), zr 27 (.bin .shr (zt 26) (.const (.int .u64 31))), za 7 (zt 27)])
  (.seq (.run [zr 28 (.mv (zt 0)), zr 29 (.ixs (zt 28) (zi 0)), zr 30 (.cvi .i32 (zt 29)), zr 31 (.mv (zt 7)), zr 32 (.bin .andNot (zt 30) (zt 31)), zr 33 (.mv (zt 7)), zr 34 (.bin .and (.const (.int .i32 65533)) (zt 33)), zr 35 (.bin .or (zt 32) (zt 34)), za 2 (zt 35), za 3 (zi 1)])
  .ret))
  .skip))
  rc116_6)))
def rc116 : RC := (.seq (.run [za 2 (.const (.int .i32 0)), za 3 (zi 0)])
  (.seq (.run [zr 13 (.mv (zt 0)), zr 14 (.lens (zt 13)), za 4 (zt 14)])
  (.seq (.seq (.run [zr 15 (.mv (zt 4)), zr 16 (.bin .lss (zt 15) (zi 1))])
  (.cond (zt 16)
  (.seq (.run [za 2 (.const (.int .i32 65533)), za 3 (zi 0)])
  .ret)
  .skip))
  rc116_7)))
def ce116 : List (Nat × List Nat × List Nat) := []
def ro116 : List RO := [(.mv (zt 2)), (.mv (zt 3))]
theorem ok116 : okFn Tryz.prog 116 117 ce116 = some (rc116, ro116) := by kernel_rfl
def rc117 : RC := (.seq (.run [za 4 (zi 0)])
  (.seq (.run [zr 5 (.mv (zt 0)), zr 6 (.mv (zt 1)), zc 7 126 [(zt 5), (zt 6)], za 4 (zt 7)])
  .ret))
def ce117 : List (Nat × List Nat × List Nat) := []
def ro117 : List RO := [(.mv (zt 4))]
theorem ok117 : okFn Tryz.prog 117 8 ce117 = some (rc117, ro117) := by kernel_rfl
def rc119 : RC := (.seq (.run [za 2 (zi 0)])
  (.seq (.run [zr 3 (.mv (zt 0)), zr 4 (.bin .add (zt 3) (zi 16)), zr 5 (.bin .quo (zt 4) (zi 8)), za 2 (zt 5)])
  .ret))
def ce119 : List (Nat × List Nat × List Nat) := []
def ro119 : List RO := [(.mv (zt 2))]
theorem ok119 : okFn Tryz.prog 119 6 ce119 = some (rc119, ro119) := by kernel_rfl
def rc120_0 : RC := (.seq (.block 1 (.run [zr 23 (.mv (zt 8)), zr 24 (.bin .mul (zt 23) (.const (.int .u32 16777619))), zr 25 (.mv (zt 0)), zr 26 (.mv (zt 9)), zr 27 (.ixs (zt 25) (zt 26)), zr 28 (.cvi .u32 (zt 27)), zr 29 (.bin .add (zt 24) (zt 28)), za 8 (zt 29)]))
  (.run [zr 21 (.mv (zt 9)), zr 22 (.bin .add (zt 21) (zi 1)), za 9 (zt 22)]))
def rc120_1 : RC := (.seq (.seq (.run [zr 18 (.mv (zt 9)), zr 19 (.mv (zt 7)), zr 20 (.bin .lss (zt 18) (zt 19))])
  (.cond (zt 20)
  .skip
  (.exit 0)))
  rc120_0)
def rc120_2 : RC := (.block 3 (.seq (.run [zr 45 (.mv (zt 8)), zr 46 (.bin .mul (zt 45) (.const (.int .u32 16777619))), za 8 (zt 46)])
  (.seq (.run [zr 47 (.mv (zt 8)), zr 48 (.mv (zt 0)), zr 49 (.mv (zt 10)), zr 50 (.ixs (zt 48) (zt 49)), zr 51 (.cvi .u32 (zt 50)), zr 52 (.bin .add (zt 47) (zt 51)), za 8 (zt 52)])
  (.seq (.run [zr 53 (.mv (zt 8)), zr 54 (.mv (zt 6)), zr 55 (.mv (zt 0)), zr 56 (.mv (zt 10)), zr 57 (.mv (zt 7)), zr 58 (.bin .sub (zt 56) (zt 57)), zr 59 (.ixs (zt 55) (zt 58)), zr 60 (.cvi .u32 (zt 59)), zr 61 (.bin .mul (zt 54) (zt 60)), zr 62 (.bin .sub (zt 53) (zt 61)), za 8 (zt 62)])
  (.seq (.run [zr 63 (.mv (zt 10)), zr 64 (.bin .add (zt 63) (zi 1)), za 10 (zt 64)])
  (.seq (.run [zr 65 (.mv (zt 8)), zr 66 (.mv (zt 5)), zr 67 (.bin .eql (zt 65) (zt 66)), zr 68 (.mv (zt 67)), zg 69 68 true (.mv (zt 0)), zg 70 68 true (.mv (zt 10)), zg 71 68 true (.mv (zt 7)), zg 72 68 true (.bin .sub (zt 70) (zt 71)), zg 73 68 true (.mv (zt 10)), zg 74 68 true (.sls (zt 69) (some (zt 72)) (some (zt 73))), zg 75 68 true (.mv (zt 1)), zg 76 68 true (.bin .eql (zt 74) (zt 75)), zr 77 (.pick (zt 68) (zt 76) (.const (.bool false)))])
  (.cond (zt 77)
  (.seq (.run [zr 78 (.mv (zt 10)), zr 79 (.mv (zt 7)), zr 80 (.bin .sub (zt 78) (zt 79)), za 4 (zt 80)])
  .ret)
  .skip)))))))
def rc120_3 : RC := (.seq (.seq (.run [zr 41 (.mv (zt 10)), zr 42 (.mv (zt 0)), zr 43 (.lens (zt 42)), zr 44 (.bin .lss (zt 41) (zt 43))])
  (.cond (zt 44)
  .skip
  (.exit 2)))
  rc120_2)
def rc120_4 : RC := (.seq (.run [za 4 (zi (-1))])
  .ret)
def rc120_5 : RC := (.seq (.seq (.run [zr 40 (.mv (zt 7)), za 10 (zt 40)])
  (.block 2 (.loop rc120_3)))
  rc120_4)
def rc120_6 : RC := (.seq (.seq (.run [zr 30 (.mv (zt 8)), zr 31 (.mv (zt 5)), zr 32 (.bin .eql (zt 30) (zt 31)), zr 33 (.mv (zt 32)), zg 34 33 true (.mv (zt 0)), zg 35 33 true (.mv (zt 7)), zg 36 33 true (.sls (zt 34) none (some (zt 35))), zg 37 33 true (.mv (zt 1)), zg 38 33 true (.bin .eql (zt 36) (zt 37)), zr 39 (.pick (zt 33) (zt 38) (.const (.bool false)))])
  (.cond (zt 39)
  (.seq (.run [za 4 (zi 0)])
  .ret)
  .skip))
  rc120_5)
def rc120 : RC := (.seq (.run [za 4 (zi 0)])
  (.seq (.run [zr 12 (.mv (zt 1)), zc 13 127 [(zt 12)], zr 11 (.mv (zt 13)), zr 14 (.ext 0 (zt 11)), zr 15 (.ext 1 (zt 11)), za 5 (zt 14), za 6 (zt 15)])
  (.seq (.run [zr 16 (.mv (zt 1)), zr 17 (.lens (zt 16)), za 7 (zt 17)])
  (.seq (.run [za 8 (.const (.int .u32 0))])
  (.seq (.seq (.run [za 9 (zi 0)])
  (.block 0 (.loop rc120_1)))
  rc120_6)))))
def ce120 : List (Nat × List Nat × List Nat) := []
def ro120 : List RO := [(.mv (zt 4))]
theorem ok120 : okFn Tryz.prog 120 81 ce120 = some (rc120, ro120) := by kernel_rfl
def rc121_0 : RC := (.seq (.run [zr 7 (.mv (zt 0)), zr 8 (.lens (zt 7)), zf 9 (.mks 5 1 (.int .u8 0) (zt 8) (zt 8)), za 3 (zt 9)])
  (.seq (.run [zr 10 (.mv (zt 3)), zr 11 (.mv (zt 0)), zf 12 (.cpy 1 (zt 10) (zt 11))])
  (.seq (.run [zr 13 (.mv (zt 3)), zr 14 (.ia 1 (zt 13) (zi 0)), zr 15 (.mv (zt 3)), zr 16 (.lenl (zt 15)), zf 17 (.ust 5 (zt 14) (zt 16)), za 2 (zt 17)])
  .ret)))
def rc121 : RC := (.seq (.run [za 2 (.const (.string ⟨#[]⟩))])
  (.seq (.seq (.run [zr 4 (.mv (zt 0)), zr 5 (.lens (zt 4)), zr 6 (.bin .eql (zt 5) (zi 0))])
  (.cond (zt 6)
  (.seq (.run [za 2 (.const (.string ⟨#[]⟩))])
  .ret)
  .skip))
  rc121_0))
def ce121 : List (Nat × List Nat × List Nat) := []
def ro121 : List RO := [(.mv (zt 2))]
theorem ok121 : okFn Tryz.prog 121 18 ce121 = some (rc121, ro121) := by kernel_rfl
def rc122 : RC := (.seq (.run [za 2 (.const .nilIface)])
  (.seq (.run [zr 3 (.mv (zt 0)), zr 4 (.bld [(.string ⟨#[]⟩)] [(0, 1, (zt 3))]), zf 5 (.bx 190 (zt 4)), zr 6 (.mki 188 (zt 5)), za 2 (zt 6)])
  .ret))
def ce122 : List (Nat × List Nat × List Nat) := []
def ro122 : List RO := [(.mv (zt 2))]
theorem ok122 : okFn Tryz.prog 122 7 ce122 = some (rc122, ro122) := by kernel_rfl
def rc123 : RC := (.seq (.run [za 2 (.const (.string ⟨#[]⟩))])
  (.seq (.run [zr 3 (.mv (zt 0)), zc 4 128 [(zt 3)], za 2 (zt 4)])
  .ret))
def ce123 : List (Nat × List Nat × List Nat) := []
def ro123 : List RO := [(.mv (zt 2))]
theorem ok123 : okFn Tryz.prog 123 5 ce123 = some (rc123, ro123) := by kernel_rfl
def rc127_0 : RC := (.seq (.block 1 (.run [zr 15 (.mv (zt 4)), zr 16 (.bin .mul (zt 15) (.const (.int .u32 16777619))), zr 17 (.mv (zt 0)), zr 18 (.mv (zt 5)), zr 19 (.ixs (zt 17) (zt 18)), zr 20 (.cvi .u32 (zt 19)), zr 21 (.bin .add (zt 16) (zt 20)), za 4 (zt 21)]))
  (.run [zr 13 (.mv (zt 5)), zr 14 (.bin .add (zt 13) (zi 1)), za 5 (zt 14)]))
def rc127_1 : RC := (.seq (.seq (.run [zr 9 (.mv (zt 5)), zr 10 (.mv (zt 0)), zr 11 (.lens (zt 10)), zr 12 (.bin .lss (zt 9) (zt 11))])
  (.cond (zt 12)
  .skip
  (.exit 0)))
  rc127_0)
def rc127_2 : RC := (.seq (.block 3 (.seq (.seq (.run [zr 28 (.mv (zt 8)), zr 29 (.bin .and (zt 28) (zi 1)), zr 30 (.bin .neq (zt 29) (zi 0))])
  (.cond (zt 30)
  (.run [zr 31 (.mv (zt 6)), zr 32 (.mv (zt 7)), zr 33 (.bin .mul (zt 31) (zt 32)), za 6 (zt 33)])
  .skip))
  (.run [zr 34 (.mv (zt 7)), zr 35 (.mv (zt 7)), zr 36 (.bin .mul (zt 34) (zt 35)), za 7 (zt 36)])))
  (.run [zr 26 (.mv (zt 8)), zr 27 (.bin .shr (zt 26) (.const (.int .u64 1))), za 8 (zt 27)]))
def rc127_3 : RC := (.seq (.seq (.run [zr 24 (.mv (zt 8)), zr 25 (.bin .gtr (zt 24) (zi 0))])
  (.cond (zt 25)
  .skip
  (.exit 2)))
  rc127_2)
def rc127_4 : RC := (.seq (.run [zr 37 (.mv (zt 4)), zr 38 (.mv (zt 6)), za 2 (zt 37), za 3 (zt 38)])
  .ret)
def rc127_5 : RC := (.seq (.run [za 6 (.const (.int .u32 1)), za 7 (.const (.int .u32 16777619))])
  (.seq (.seq (.run [zr 22 (.mv (zt 0)), zr 23 (.lens (zt 22)), za 8 (zt 23)])
  (.block 2 (.loop rc127_3)))
  rc127_4))
def rc127 : RC := (.seq (.run [za 2 (.const (.int .u32 0)), za 3 (.const (.int .u32 0))])
  (.seq (.run [za 4 (.const (.int .u32 0))])
  (.seq (.seq (.run [za 5 (zi 0)])
  (.block 0 (.loop rc127_1)))
  rc127_5)))
def ce127 : List (Nat × List Nat × List Nat) := []
def ro127 : List RO := [(.mv (zt 2)), (.mv (zt 3))]
theorem ok127 : okFn Tryz.prog 127 39 ce127 = some (rc127, ro127) := by kernel_rfl
def rc128 : RC := (.seq (.run [za 2 (.const (.string ⟨#[]⟩))])
  (.seq (.run [zr 3 (.mv (zt 0)), zc 4 46 [(zt 3), (zi 10)], za 2 (zt 4)])
  .ret))
def ce128 : List (Nat × List Nat × List Nat) := []
def ro128 : List RO := [(.mv (zt 2))]
theorem ok128 : okFn Tryz.prog 128 5 ce128 = some (rc128, ro128) := by kernel_rfl
end Go.Proofs.YtiapjjgmmiifmaaGreatDoor.Ab

set_option linter.unusedVariables false
set_option linter.unusedSimpArgs false
namespace Go.Proofs.YtiapjjgmmiifmaaGreatDoor.Ab
open Go Go.RowKit
set_option maxHeartbeats 4000000
set_option maxRecDepth 100000
/-- What lies in X is kept. -/
def Keeps (X : Nat → Prop) (m m' : Mem) : Prop := m.next ≤ m'.next ∧ ∀ i, i < m.next → X i → m'.get i = m.get i
theorem Keeps.refl (X : Nat → Prop) (m : Mem) : Keeps X m m := ⟨Nat.le_refl _, fun _ _ _ => rfl⟩
theorem Keeps.trans {X : Nat → Prop} {a b c : Mem} (h : Keeps X a b) (k : Keeps X b c) : Keeps X a c :=
  ⟨Nat.le_trans h.1 k.1, fun i hi hn => by rw [k.2 i (Nat.lt_of_lt_of_le hi h.1) hn, h.2 i hi hn]⟩
theorem Keeps.mono {X Y : Nat → Prop} {a b : Mem} (h : Keeps X a b) (hy : ∀ i, i < a.next → Y i → X i) : Keeps Y a b := ⟨h.1, fun i hi hn => h.2 i hi (hy i hi hn)⟩
theorem Old.keeps {X : Nat → Prop} {a b : Mem} (h : Old a b) : Keeps X a b := ⟨h.1, fun i hi _ => h.2 i hi⟩
theorem Keeps.set {X : Nat → Prop} {a b : Mem} (h : Keeps X a b) {i : Nat} (hi : i < a.next → ¬ X i) (e : Ent) : Keeps X a (b.set i e) := ⟨h.1, fun k hk hx => by rw [Mem.set_other _ _ (fun e => hi (by omega) (by rw [← e]; exact hx)), h.2 k hk hx]⟩
theorem Keeps.push {X : Nat → Prop} {a b : Mem} (h : Keeps X a b) (e : Ent) : Keeps X a (b.push e) := ⟨Nat.le_trans h.1 (by simp), fun k hk hx => by rw [Mem.push_old _ _ (Nat.lt_of_lt_of_le hk h.1), h.2 k hk hx]⟩
theorem Keeps.kill {X : Nat → Prop} {a b : Mem} (h : Keeps X a b) {ob : Option Nat} (hi : ∀ i, ob = some i → i < a.next → ¬ X i) : Keeps X a (b.kill ob) := ⟨h.1, fun k hk hx => by rw [Mem.kill_other _ (fun e => hi k e hk hx), h.2 k hk hx]⟩
/-- A slice that is only read, in blocks of X. -/
structure RdV (X : Nat → Prop) (m : Mem) (sz : Nat) (v : Value) (cs : List Value) (n : Nat) : Prop where
  sl : SlR m sz v cs n
  bl : ∀ b, blk v = some b → b < m.next ∧ X b
theorem RdV.keep {X : Nat → Prop} {m m' : Mem} {sz n : Nat} {v : Value} {cs : List Value} (h : RdV X m sz v cs n) (k : Keeps X m m') : RdV X m' sz v cs n :=
  ⟨h.sl.keep fun b hb => k.2 b (h.bl b hb).1 (h.bl b hb).2, fun b hb => ⟨Nat.lt_of_lt_of_le (h.bl b hb).1 k.1, (h.bl b hb).2⟩⟩
theorem RdV.mono {X Y : Nat → Prop} {m : Mem} {sz n : Nat} {v : Value} {cs : List Value} (h : RdV X m sz v cs n) (hy : ∀ i, i < m.next → X i → Y i) : RdV Y m sz v cs n :=
  ⟨h.sl, fun b hb => ⟨(h.bl b hb).1, hy b (h.bl b hb).1 (h.bl b hb).2⟩⟩
theorem SK_stK {P : Program} {w0 : World} {ts : Fr} {m : Mem} {R : Value → Mem → Prop} {n i o : Nat} {p x : Operand} {cs cs' vs : List Value} {e : TypeId} (hp : ev ts p = .pointer (some ⟨i, o, none⟩)) (hm : m.get i = .own cs e) (hv : cellsV (ev ts x) = vs) (h1 : o + n ≤ cs.length) (h2 : vs.length = n) (h3 : vs.all oneC = true)
    (hM : putAt cs o vs = cs') (hR : R undef (m.set i (.own cs' e))) : SK P w0 (.e (.st n p x)) ts m R := by
  subst hv
  subst hM
  exact SK_st hp hm h1 h2 h3 hR
end Go.Proofs.YtiapjjgmmiifmaaGreatDoor.Ab

set_option maxRecDepth 20000
namespace Go.Proofs.YtiapjjgmmiifmaaGreatDoor.Ab
open Go Go.RowKit
noncomputable def tab : List TE := [⟨9, 50, rc9, ro9⟩, ⟨10, 8, rc10, ro10⟩, ⟨11, 19, rc11, ro11⟩, ⟨12, 54, rc12, ro12⟩, ⟨15, 8, rc15, ro15⟩, ⟨16, 11, rc16, ro16⟩, ⟨17, 19, rc17, ro17⟩, ⟨28, 21, rc28, ro28⟩, ⟨29, 45, rc29, ro29⟩, ⟨30, 45, rc30, ro30⟩, ⟨31, 8, rc31, ro31⟩, ⟨32, 38, rc32, ro32⟩, ⟨33, 13, rc33, ro33⟩, ⟨34, 8, rc34, ro34⟩, ⟨35, 2, rc35, ro35⟩, ⟨45, 101, rc45, ro45⟩, ⟨46, 54, rc46, ro46⟩, ⟨47, 32, rc47, ro47⟩, ⟨60, 8, rc60, ro60⟩, ⟨61, 30, rc61, ro61⟩, ⟨62, 8, rc62, ro62⟩, ⟨63, 21, rc63, ro63⟩, ⟨64, 46, rc64, ro64⟩, ⟨65, 21, rc65, ro65⟩, ⟨66, 15, rc66, ro66⟩, ⟨67, 15, rc67, ro67⟩, ⟨68, 167, rc68, ro68⟩, ⟨69, 102, rc69, ro69⟩, ⟨76, 66, rc76, ro76⟩, ⟨77, 26, rc77, ro77⟩, ⟨78, 6, rc78, ro78⟩, ⟨79, 25, rc79, ro79⟩, ⟨80, 4, rc80, ro80⟩, ⟨81, 8, rc81, ro81⟩, ⟨82, 8, rc82, ro82⟩, ⟨88, 50, rc88, ro88⟩, ⟨89, 34, rc89, ro89⟩, ⟨90, 8, rc90, ro90⟩, ⟨91, 172, rc91, ro91⟩, ⟨92, 43, rc92, ro92⟩, ⟨93, 14, rc93, ro93⟩, ⟨94, 14, rc94, ro94⟩, ⟨102, 10, rc102, ro102⟩, ⟨103, 19, rc103, ro103⟩, ⟨105, 143, rc105, ro105⟩, ⟨106, 5, rc106, ro106⟩, ⟨107, 94, rc107, ro107⟩, ⟨108, 11, rc108, ro108⟩, ⟨109, 11, rc109, ro109⟩, ⟨110, 16, rc110, ro110⟩, ⟨111, 16, rc111, ro111⟩, ⟨116, 117, rc116, ro116⟩, ⟨117, 8, rc117, ro117⟩, ⟨119, 6, rc119, ro119⟩, ⟨120, 81, rc120, ro120⟩, ⟨121, 18, rc121, ro121⟩, ⟨122, 7, rc122, ro122⟩, ⟨123, 5, rc123, ro123⟩, ⟨127, 39, rc127, ro127⟩, ⟨128, 5, rc128, ro128⟩]
theorem tab_ok : TOk Tryz.prog tab := by
  intro t ht
  simp only [tab, List.mem_cons, List.mem_nil_iff, or_false] at ht
  rcases ht with rfl | rfl | rfl | rfl | rfl | rfl | rfl | rfl | rfl | rfl | rfl | rfl | rfl | rfl | rfl | rfl | rfl | rfl | rfl | rfl | rfl | rfl | rfl | rfl | rfl | rfl | rfl | rfl | rfl | rfl | rfl | rfl | rfl | rfl | rfl | rfl | rfl | rfl | rfl | rfl | rfl | rfl | rfl | rfl | rfl | rfl | rfl | rfl | rfl | rfl | rfl | rfl | rfl | rfl | rfl | rfl | rfl | rfl | rfl | rfl
  · exact ⟨_, ok9⟩
  · exact ⟨_, ok10⟩
  · exact ⟨_, ok11⟩
  · exact ⟨_, ok12⟩
  · exact ⟨_, ok15⟩
  · exact ⟨_, ok16⟩
  · exact ⟨_, ok17⟩
  · exact ⟨_, ok28⟩
  · exact ⟨_, ok29⟩
  · exact ⟨_, ok30⟩
  · exact ⟨_, ok31⟩
  · exact ⟨_, ok32⟩
  · exact ⟨_, ok33⟩
  · exact ⟨_, ok34⟩
  · exact ⟨_, ok35⟩
  · exact ⟨_, ok45⟩
  · exact ⟨_, ok46⟩
  · exact ⟨_, ok47⟩
  · exact ⟨_, ok60⟩
  · exact ⟨_, ok61⟩
  · exact ⟨_, ok62⟩
  · exact ⟨_, ok63⟩
  · exact ⟨_, ok64⟩
  · exact ⟨_, ok65⟩
  · exact ⟨_, ok66⟩
  · exact ⟨_, ok67⟩
  · exact ⟨_, ok68⟩
  · exact ⟨_, ok69⟩
  · exact ⟨_, ok76⟩
  · exact ⟨_, ok77⟩
  · exact ⟨_, ok78⟩
  · exact ⟨_, ok79⟩
  · exact ⟨_, ok80⟩
  · exact ⟨_, ok81⟩
  · exact ⟨_, ok82⟩
  · exact ⟨_, ok88⟩
  · exact ⟨_, ok89⟩
  · exact ⟨_, ok90⟩
  · exact ⟨_, ok91⟩
  · exact ⟨_, ok92⟩
  · exact ⟨_, ok93⟩
  · exact ⟨_, ok94⟩
  · exact ⟨_, ok102⟩
  · exact ⟨_, ok103⟩
  · exact ⟨_, ok105⟩
  · exact ⟨_, ok106⟩
  · exact ⟨_, ok107⟩
  · exact ⟨_, ok108⟩
  · exact ⟨_, ok109⟩
  · exact ⟨_, ok110⟩
  · exact ⟨_, ok111⟩
  · exact ⟨_, ok116⟩
  · exact ⟨_, ok117⟩
  · exact ⟨_, ok119⟩
  · exact ⟨_, ok120⟩
  · exact ⟨_, ok121⟩
  · exact ⟨_, ok122⟩
  · exact ⟨_, ok123⟩
  · exact ⟨_, ok127⟩
  · exact ⟨_, ok128⟩
theorem fnd126 : Extern.findNext Tryz.f126 = none := by kernel_rfl
theorem xis126 : xIs Tryz.prog 126 .idx := ⟨Tryz.f126, _, Tryz.func126, by kernel_rfl, by kernel_rfl, fnd126, (by kernel_rfl : Extern.find Tryz.f126 = some Extern.BytealgIndexByte.indexByte), rfl⟩
theorem fnd104 : Extern.findNext Tryz.f104 = none := by kernel_rfl
theorem xis104 : xIs Tryz.prog 104 .cnt := ⟨Tryz.f104, _, Tryz.func104, by kernel_rfl, by kernel_rfl, fnd104, (by kernel_rfl : Extern.find Tryz.f104 = some Extern.BytealgCount.count), rfl⟩
def xs : List (FuncId × XK) := [(126, .idx), (104, .cnt)]
theorem xs_all : ∀ x ∈ xs, xIs Tryz.prog x.1 x.2 := by
  intro x hx
  simp only [xs, List.mem_cons, List.mem_nil_iff, or_false] at hx
  rcases hx with rfl | rfl
  · exact xis126
  · exact xis104
theorem xs_ok : XOk Tryz.prog (xCall xs) := xCall_ok xs_all
end Go.Proofs.YtiapjjgmmiifmaaGreatDoor.Ab

set_option linter.unusedVariables false
set_option linter.unusedSimpArgs false
set_option maxHeartbeats 4000000
set_option maxRecDepth 100000
namespace Go.Proofs.YtiapjjgmmiifmaaGreatDoor.Ab
open Go Go.RowKit
def z32 : List Int := [0, 1, 28, 2, 29, 14, 24, 3, 30, 22, 20, 15, 25, 17, 4, 8, 31, 27, 13, 23, 21, 19, 16, 7, 26, 12, 18, 6, 11, 5, 10, 9]
def z64 : List Int := [0, 1, 56, 2, 57, 49, 28, 3, 61, 58, 42, 50, 38, 29, 17, 4, 62, 47, 59, 36, 45, 43, 51, 22, 53, 39, 33, 30, 24, 18, 12, 5, 63, 55, 48, 27, 60, 41, 37, 16, 46, 35, 44, 21, 52, 32, 23, 11, 54, 26, 40, 15, 34, 20, 31, 10, 25, 14, 19, 9, 13, 8, 7, 6]
def z10 : List Int := [1, 10, 100, 1000, 10000, 100000, 1000000, 10000000, 100000000, 1000000000, 10000000000, 100000000000, 1000000000000, 10000000000000, 100000000000000, 1000000000000000, 10000000000000000, 100000000000000000, 1000000000000000000, 10000000000000000000]
def e32 : List Value := z32.map fun z => .int .u8 z
def e64 : List Value := z64.map fun z => .int .u8 z
def e10 : List Value := z10.map fun z => .int .u64 z
def gs0 : List (Nat × List Value) := [(1, e32), (2, e64), (0, e10)]
def L0 : LM := ⟨8, (.n (.n (.n (.n (.n (.ro e10) (.ro e32) (.ro e64) .dead .dead .dead .dead .dead) .e .e .e .e .e .e .e) .e .e .e .e .e .e .e) .e .e .e .e .e .e .e) .e .e .e .e .e .e .e)⟩
theorem globals_size : Tryz.prog.globals.size = L0.n := by kernel_rfl
theorem L0_get (i : Nat) : L0.get i = entOf gs0 i := by
  by_cases h : i < 8
  · have : i = 0 ∨ i = 1 ∨ i = 2 ∨ i = 3 ∨ i = 4 ∨ i = 5 ∨ i = 6 ∨ i = 7 := by omega
    rcases this with rfl | rfl | rfl | rfl | rfl | rfl | rfl | rfl <;> rfl
  · rw [LM.get_ge h]
    have n1 : (i == 1) = false := by simp; omega
    have n2 : (i == 2) = false := by simp; omega
    have n0 : (i == 0) = false := by simp; omega
    simp [entOf, gs0, List.lookup_cons, n1, n2, n0]
theorem laid_ok : laidB Tryz.prog gs0 = true := by kernel_rfl
theorem L0_part : partB L0 = true := by kernel_rfl
theorem laidIn {W : World} {l : List (String × DataW Unit)} (h : laidMet Tryz.prog l W) (h1 : ("math/bits.deBruijn32tab", Lib.tabData .u8 z32) ∈ l) (h2 : ("math/bits.deBruijn64tab", Lib.tabData .u8 z64) ∈ l) (h3 : ("internal/strconv.uint64pow10", Lib.tabData .u64 z10) ∈ l) : LaidIn Tryz.prog W gs0 where
  cell := by
    intro x hx
    simp only [gs0, List.mem_cons, List.mem_nil_iff, or_false] at hx
    rcases hx with rfl | rfl | rfl
    · exact laid_tab h h1 (by kernel_rfl) (by kernel_rfl) Tryz.underlying173 Tryz.underlying5 (by kernel_rfl) (by kernel_rfl)
    · exact laid_tab h h2 (by kernel_rfl) (by kernel_rfl) Tryz.underlying174 Tryz.underlying5 (by kernel_rfl) (by kernel_rfl)
    · exact laid_tab h h3 (by kernel_rfl) (by kernel_rfl) Tryz.underlying140 Tryz.underlying85 (by kernel_rfl) (by kernel_rfl)
theorem awk : outIs (.bool true) (callE tab (xCall xs) Tryz.prog 3000 9 [] L0) = true := by kernel_rfl
theorem c_awake {w0 : World} {m : Mem} {Q : Value → Mem → Prop} (hp : Part L0 m) (hq : Q (.bool true) m) : AbC Tryz.prog w0 9 [] m Q :=
  AbC_run 3000 tab_ok xs_ok hp (Nat.le_of_eq globals_size) rfl awk rfl hq
end Go.Proofs.YtiapjjgmmiifmaaGreatDoor.Ab

set_option linter.unusedVariables false
set_option linter.unusedSimpArgs false
namespace Go.Proofs.YtiapjjgmmiifmaaGreatDoor.Ab
open Go Go.RowKit
set_option maxHeartbeats 4000000
set_option maxRecDepth 100000
theorem closed {w0 : World} {m : Mem} {f : FuncId} {args : List Value} {v : Value} {Q : Value → Mem → Prop} {n : Nat} (hp : Part L0 m) (ha : args.all (plainV 6) = true) (h : outIs v (callE tab (xCall xs) Tryz.prog n f args L0) = true) (hv : plainV 6 v = true) (hq : Q v m) : AbC Tryz.prog w0 f args m Q :=
  AbC_run n tab_ok xs_ok hp (Nat.le_of_eq globals_size) ha h hv hq
theorem bytesOf_mapN : ∀ (l : List UInt8), bytesOf (l.map byteV) = some l
  | [] => rfl
  | b :: l => by
    show (bytesOf (l.map byteV)).map (UInt8.ofNat ((b.toNat : Int).toNat) :: ·) = _
    rw [bytesOf_mapN l]
    simp
end Go.Proofs.YtiapjjgmmiifmaaGreatDoor.Ab

namespace Go.Proofs
open Go.Shelf
def Tryz.lays143_ren : Go.Shelf.Ren := ⟨fun | 143 => 90 | 219 => 105 | 217 => 117 | 225 => 118 | 224 => 119 | 267 => 120 | 266 => 126 | 314 => 127 | n => n, fun | 9 => 9 | 3 => 3 | 4 => 4 | 5 => 5 | 46 => 100 | 146 => 185 | 51 => 41 | n => n, fun | 1 => 3 | n => n⟩
theorem Tryz.lays143 : Go.Proofs.Lays.n143 Tryz.prog Tryz.lays143_ren := {
  mixed := by kernel_rfl
  f143 := Tryz.func90.trans (congrArg some (by kernel_rfl))
  f217 := Tryz.func117.trans (congrArg some (by kernel_rfl))
  f219 := Tryz.func105.trans (congrArg some (by kernel_rfl))
  f224 := Tryz.func119.trans (congrArg some (by kernel_rfl))
  f225 := Tryz.func118.trans (congrArg some (by kernel_rfl))
  f266 := Tryz.func126.trans (congrArg some (by kernel_rfl))
  f267 := Tryz.func120.trans (congrArg some (by kernel_rfl))
  f314 := Tryz.func127.trans (congrArg some (by kernel_rfl))
  t3 := Tryz.underlying3
  a3 := Tryz.isAgg3
  z3 := Tryz.sizeOf3
  v3 := Tryz.zeroValue3
  t4 := Tryz.underlying4
  a4 := Tryz.isAgg4
  z4 := Tryz.sizeOf4
  v4 := Tryz.zeroValue4
  t5 := Tryz.underlying5
  a5 := Tryz.isAgg5
  z5 := Tryz.sizeOf5
  v5 := Tryz.zeroValue5
  t9 := Tryz.underlying9
  a9 := Tryz.isAgg9
  z9 := Tryz.sizeOf9
  v9 := Tryz.zeroValue9
  t46 := Tryz.underlying100
  a46 := Tryz.isAgg100
  z46 := Tryz.sizeOf100
  v46 := Tryz.zeroValue100
  t51 := Tryz.underlying41
  a51 := Tryz.isAgg41
  z51 := Tryz.sizeOf41
  v51 := Tryz.zeroValue41
  t146 := Tryz.underlying185
  a146 := Tryz.isAgg185
  z146 := Tryz.sizeOf185
  v146 := Tryz.zeroValue185
  g1 := by kernel_rfl }
open Go.RowKit Go.Lib in
/-- strings.Index: "Index returns the index of the first instance of substr in s, or -1 if substr is not present in s.": AT A substr OF ONE BYTE c: IT RETURNS 'Lib.indexByte s c'; the world is as it was. (LAID: no walk: one application.) -/
theorem Tryz.strings_Index_one (s : ByteArray) (c : UInt8) (w : World) :
    Calls Tryz.prog 90 #[.string s, .string ⟨#[c]⟩] w fun e w' => e = .returned (.int .i64 (Lib.indexByte s.data.toList c)) ∧ w' = w := Any.strings_Index_one Tryz.lays143 s c w
def Tryz.lays138_ren : Go.Shelf.Ren := ⟨fun | 138 => 89 | 195 => 102 | 218 => 104 | 143 => 90 | 219 => 105 | 217 => 117 | 225 => 118 | 224 => 119 | 267 => 120 | 266 => 126 | 314 => 127 | n => n, fun | 9 => 9 | 3 => 3 | 4 => 4 | 5 => 5 | 0 => 0 | 46 => 100 | 146 => 185 | 51 => 41 | n => n, fun | 1 => 3 | n => n⟩
theorem Tryz.lays138 : Go.Proofs.Lays.n138 Tryz.prog Tryz.lays138_ren := {
  mixed := by kernel_rfl
  f138 := Tryz.func89.trans (congrArg some (by kernel_rfl))
  f143 := Tryz.func90.trans (congrArg some (by kernel_rfl))
  f195 := Tryz.func102.trans (congrArg some (by kernel_rfl))
  f217 := Tryz.func117.trans (congrArg some (by kernel_rfl))
  f218 := Tryz.func104.trans (congrArg some (by kernel_rfl))
  f219 := Tryz.func105.trans (congrArg some (by kernel_rfl))
  f224 := Tryz.func119.trans (congrArg some (by kernel_rfl))
  f225 := Tryz.func118.trans (congrArg some (by kernel_rfl))
  f266 := Tryz.func126.trans (congrArg some (by kernel_rfl))
  f267 := Tryz.func120.trans (congrArg some (by kernel_rfl))
  f314 := Tryz.func127.trans (congrArg some (by kernel_rfl))
  t0 := Tryz.underlying0
  a0 := Tryz.isAgg0
  z0 := Tryz.sizeOf0
  v0 := Tryz.zeroValue0
  t3 := Tryz.underlying3
  a3 := Tryz.isAgg3
  z3 := Tryz.sizeOf3
  v3 := Tryz.zeroValue3
  t4 := Tryz.underlying4
  a4 := Tryz.isAgg4
  z4 := Tryz.sizeOf4
  v4 := Tryz.zeroValue4
  t5 := Tryz.underlying5
  a5 := Tryz.isAgg5
  z5 := Tryz.sizeOf5
  v5 := Tryz.zeroValue5
  t9 := Tryz.underlying9
  a9 := Tryz.isAgg9
  z9 := Tryz.sizeOf9
  v9 := Tryz.zeroValue9
  t46 := Tryz.underlying100
  a46 := Tryz.isAgg100
  z46 := Tryz.sizeOf100
  v46 := Tryz.zeroValue100
  t51 := Tryz.underlying41
  a51 := Tryz.isAgg41
  z51 := Tryz.sizeOf41
  v51 := Tryz.zeroValue41
  t146 := Tryz.underlying185
  a146 := Tryz.isAgg185
  z146 := Tryz.sizeOf185
  v146 := Tryz.zeroValue185
  g1 := by kernel_rfl }
open Go.RowKit Go.Lib in
/-- strings.Count AT A substr OF ONE BYTE ('hp'): "Count counts the number of non-overlapping instances of substr in s.": IT RETURNS 'Lib.countByte s (that byte)'; the world is as it was. ✋ NO CONTRACT HERE YET at an empty substr (utf8.RuneCountInString) or at a longer one (a loop over strings.Index). (LAID: no walk: one application.) -/
theorem Tryz.strings_Count_one (s : ByteArray) (c : UInt8) (w : World) :
    Calls Tryz.prog 89 #[.string s, .string ⟨#[c]⟩] w fun e w' => e = .returned (.int .i64 (Lib.countByte s.data.toList c)) ∧ w' = w := Any.strings_Count_one Tryz.lays138 s c w
def Tryz.lays221_ren : Go.Shelf.Ren := ⟨fun | 221 => 76 | 268 => 88 | 138 => 89 | 143 => 90 | 195 => 102 | 197 => 103 | 218 => 104 | 219 => 105 | 260 => 116 | 217 => 117 | 225 => 118 | 224 => 119 | 267 => 120 | 266 => 126 | 314 => 127 | n => n, fun | 9 => 9 | 3 => 3 | 31 => 57 | 4 => 4 | 0 => 0 | 105 => 165 | 21 => 21 | 5 => 5 | 46 => 100 | 119 => 181 | 139 => 184 | 138 => 183 | 146 => 185 | 51 => 41 | n => n, fun | 1 => 3 | 3 => 6 | 4 => 7 | n => n⟩
theorem Tryz.lays221 : Go.Proofs.Lays.n221 Tryz.prog Tryz.lays221_ren := {
  mixed := by kernel_rfl
  f138 := Tryz.func89.trans (congrArg some (by kernel_rfl))
  f143 := Tryz.func90.trans (congrArg some (by kernel_rfl))
  f195 := Tryz.func102.trans (congrArg some (by kernel_rfl))
  f197 := Tryz.func103.trans (congrArg some (by kernel_rfl))
  f217 := Tryz.func117.trans (congrArg some (by kernel_rfl))
  f218 := Tryz.func104.trans (congrArg some (by kernel_rfl))
  f219 := Tryz.func105.trans (congrArg some (by kernel_rfl))
  f221 := Tryz.func76.trans (congrArg some (by kernel_rfl))
  f224 := Tryz.func119.trans (congrArg some (by kernel_rfl))
  f225 := Tryz.func118.trans (congrArg some (by kernel_rfl))
  f260 := Tryz.func116.trans (congrArg some (by kernel_rfl))
  f266 := Tryz.func126.trans (congrArg some (by kernel_rfl))
  f267 := Tryz.func120.trans (congrArg some (by kernel_rfl))
  f268 := Tryz.func88.trans (congrArg some (by kernel_rfl))
  f314 := Tryz.func127.trans (congrArg some (by kernel_rfl))
  t0 := Tryz.underlying0
  a0 := Tryz.isAgg0
  z0 := Tryz.sizeOf0
  v0 := Tryz.zeroValue0
  t3 := Tryz.underlying3
  a3 := Tryz.isAgg3
  z3 := Tryz.sizeOf3
  v3 := Tryz.zeroValue3
  t4 := Tryz.underlying4
  a4 := Tryz.isAgg4
  z4 := Tryz.sizeOf4
  v4 := Tryz.zeroValue4
  t5 := Tryz.underlying5
  a5 := Tryz.isAgg5
  z5 := Tryz.sizeOf5
  v5 := Tryz.zeroValue5
  t9 := Tryz.underlying9
  a9 := Tryz.isAgg9
  z9 := Tryz.sizeOf9
  v9 := Tryz.zeroValue9
  t21 := Tryz.underlying21
  a21 := Tryz.isAgg21
  z21 := Tryz.sizeOf21
  v21 := Tryz.zeroValue21
  t31 := Tryz.underlying57
  a31 := Tryz.isAgg57
  z31 := Tryz.sizeOf57
  v31 := Tryz.zeroValue57
  t46 := Tryz.underlying100
  a46 := Tryz.isAgg100
  z46 := Tryz.sizeOf100
  v46 := Tryz.zeroValue100
  t51 := Tryz.underlying41
  a51 := Tryz.isAgg41
  z51 := Tryz.sizeOf41
  v51 := Tryz.zeroValue41
  t105 := Tryz.underlying165
  a105 := Tryz.isAgg165
  z105 := Tryz.sizeOf165
  v105 := Tryz.zeroValue165
  t119 := Tryz.underlying181
  a119 := Tryz.isAgg181
  z119 := Tryz.sizeOf181
  t138 := Tryz.underlying183
  a138 := Tryz.isAgg183
  z138 := Tryz.sizeOf183
  v138 := Tryz.zeroValue183
  t139 := Tryz.underlying184
  a139 := Tryz.isAgg184
  z139 := Tryz.sizeOf184
  v139 := Tryz.zeroValue184
  t146 := Tryz.underlying185
  a146 := Tryz.isAgg185
  z146 := Tryz.sizeOf185
  v146 := Tryz.zeroValue185
  g1 := by kernel_rfl
  g3 := by kernel_rfl
  g4 := by kernel_rfl }
end Go.Proofs

set_option linter.unusedVariables false
set_option linter.unusedSimpArgs false
namespace Go.Proofs.YtiapjjgmmiifmaaGreatDoor.Ab
open Go Go.RowKit
set_option maxHeartbeats 4000000
set_option maxRecDepth 100000
/-- The table of powers of ten lies in the world. -/
abbrev Ten (w : World) : Prop := Lib.TabIs Tryz.prog w "internal/strconv.uint64pow10" .u64 Lib.pow10Tab
theorem tab_mem {P : Program} {W : World} {l : List (String × DataW Unit)} {name : String} {k : IntKind} {zs : List Int} {g : Nat} {t e : TypeId} {n : Nat} (h : laidMet P l W) (hm : (name, Lib.tabData k zs) ∈ l)
    (hg : P.globalNamed name = some g) (hty : (P.globals[g]?).map (·.type) = some t) (ht : P.underlying t = some (.array n e)) (he : P.underlying e = some (.int k)) (hce : P.cellsOf e = 1) (hct : P.cellsOf t = n) : Lib.TabIs P W name k zs := by
  obtain ⟨ps, hv, _⟩ := h
  obtain ⟨g', t', cs, fuel, p, h1, h2, h3, h4⟩ := laid_mem hv hm
  obtain rfl := Option.some.inj (hg.symm.trans h1)
  obtain rfl := Option.some.inj (hty.symm.trans h2)
  have hcs := Lib.cells_of_tab ht he hce hct h4
  unfold Lib.TabIs
  rw [h3]
  congr 1
  exact Array.ext' (by simpa using hcs)
theorem ten_of {W : World} {l : List (String × DataW Unit)} (h : laidMet Tryz.prog l W) (hm : ("internal/strconv.uint64pow10", Lib.tabData .u64 z10) ∈ l) : Ten W := by
  have e : Lib.pow10Tab = z10 := by kernel_rfl
  unfold Ten
  rw [e]
  exact tab_mem (g := 0) h hm (by kernel_rfl) (by kernel_rfl) Tryz.underlying140 Tryz.underlying85 (by kernel_rfl) (by kernel_rfl)
end Go.Proofs.YtiapjjgmmiifmaaGreatDoor.Ab

set_option linter.unusedVariables false
set_option linter.unusedSimpArgs false
namespace Go.Proofs.YtiapjjgmmiifmaaGreatDoor.Ab
open Go Go.RowKit
section
variable {m : Mem}
theorem arg_u8 (d : TD) (c : List Value) (hf : Fits (.int .u8) d) (h : AbsT m d c) : ∃ a : UInt8, c = [byteV a] ∧ True := by
  obtain ⟨n, rfl, rfl, hw⟩ := absT_int h hf
  have hw' : 0 ≤ n ∧ n ≤ 255 := by simpa [Lit.wf, IntKind.min, IntKind.max, IntKind.signed, IntKind.bits] using hw
  refine ⟨UInt8.ofNat n.toNat, ?_, trivial⟩
  have : (UInt8.ofNat n.toNat).toNat = n.toNat := by
    rw [UInt8.toNat_ofNat']; omega
  simp only [byteV, this]
  congr 2; omega
theorem flat_one {α : Type} (f : α → Value) : ∀ l : List α, l.flatMap (fun b => [f b]) = l.map f
  | [] => rfl
  | x :: l => by simp [flat_one f l]
theorem absT_bys {td : TD} {v : Value} (h : AbsT m td [v]) (hs : Fits (.sl (.int .u8)) td) :
    ∃ bs : List UInt8, SlR m 1 v (bs.map byteV) bs.length ∧ (∀ b, blk v = some b → b < m.next) ∧ bs.length + 1 ≤ td.bulk := by
  obtain ⟨l, xs, rfl, h1, h2, h3⟩ := absT_slice (f := fun b : UInt8 => [byteV b]) (z := 1) (R := fun _ _ => True) (fun _ => rfl) arg_u8 h hs
  rw [flat_one byteV] at h1
  refine ⟨xs, h1, h3, ?_⟩
  have := TD.bulks_len l
  rw [h2.length]
  simp [TD.bulk]; omega
theorem wf_u8 {n : Int} (h : (Lit.int .u8 n).wf = true) : 0 ≤ n ∧ n ≤ 255 := by
  have : 0 ≤ n ∧ n ≤ 255 := by simpa [Lit.wf, IntKind.min, IntKind.max, IntKind.signed, IntKind.bits] using h
  exact this
end
end Go.Proofs.YtiapjjgmmiifmaaGreatDoor.Ab

set_option linter.unusedVariables false
set_option linter.unusedSimpArgs false
namespace Go.Proofs.YtiapjjgmmiifmaaGreatDoor.Ab
open Go Go.RowKit
set_option maxHeartbeats 4000000
set_option maxRecDepth 100000
theorem catB (a b : List UInt8) (h : a.length + b.length ≤ 9223372036854775807) : dBin .add (.string ⟨⟨a⟩⟩) (.string ⟨⟨b⟩⟩) = some (.string ⟨⟨a ++ b⟩⟩) := by
  have e : (ByteArray.mk ⟨a⟩) ++ (ByteArray.mk ⟨b⟩) = ⟨⟨a ++ b⟩⟩ := by
    apply ByteArray.ext
    simp
  rw [dBin_sadd (by show a.length + b.length ≤ _; omega), e]
end Go.Proofs.YtiapjjgmmiifmaaGreatDoor.Ab

set_option linter.unusedVariables false
set_option linter.unusedSimpArgs false
namespace Go.Proofs.YtiapjjgmmiifmaaGreatDoor.Ab
open Go
theorem ixB_cases (c : UInt8) : ∀ l : List UInt8, (Lib.indexByte l c = -1 ∧ c ∉ l) ∨ ∃ a r, l = a ++ c :: r ∧ c ∉ a ∧ Lib.indexByte l c = (a.length : Nat)
  | [] => .inl ⟨rfl, by simp⟩
  | b :: l => by
    unfold Lib.indexByte
    by_cases h : b = c
    · subst h
      exact .inr ⟨[], l, rfl, by simp, by simp⟩
    · have hb : (b == c) = false := by simpa using h
      simp only [hb, Bool.false_eq_true, if_false]
      rcases ixB_cases c l with ⟨h1, h2⟩ | ⟨a, r, h1, h2, h3⟩
      · refine .inl ⟨by rw [h1]; rfl, ?_⟩
        simp only [List.mem_cons, not_or]
        exact ⟨fun e => h e.symm, h2⟩
      · refine .inr ⟨b :: a, r, by rw [h1]; rfl, ?_, ?_⟩
        · simp only [List.mem_cons, not_or]
          exact ⟨fun e => h e.symm, h2⟩
        · rw [h3]
          have : ((a.length : Int) == -1) = false := by simp
          rw [this]
          simp
theorem ixB_hit {c : UInt8} {a r : List UInt8} (h : c ∉ a) : Lib.indexByte (a ++ c :: r) c = (a.length : Nat) := by
  rcases ixB_cases c (a ++ c :: r) with ⟨-, h2⟩ | ⟨a', r', h1, h2, h3⟩
  · exact (h2 (by simp)).elim
  · rw [h3]
    congr 1
    have key : ∀ (a a' r r' : List UInt8), c ∉ a → c ∉ a' → a ++ c :: r = a' ++ c :: r' → a'.length = a.length := by
      intro a
      induction a with
      | nil =>
        intro a' r r' h1 h2 h
        cases a' with
        | nil => rfl
        | cons x a' => simp at h; simp [h.1] at h2
      | cons x a ih =>
        intro a' r r' h1 h2 h
        cases a' with
        | nil => simp at h; simp [h.1] at h1
        | cons y a' =>
          simp at h h1 h2
          simp [ih a' r r' h1.2 h2.2 h.2]
    exact key a a' r r' h h2 h1
theorem splitK_hit {c : UInt8} {k : Nat} {a r : List UInt8} (h : c ∉ a) : Lib.splitK [c] 0 (k + 1) (a ++ c :: r) = a :: Lib.splitK [c] 0 k r := by
  show (if Lib.index (a ++ c :: r) [c] == -1 then [a ++ c :: r] else (a ++ c :: r).take ((Lib.index (a ++ c :: r) [c]).toNat + 0) :: Lib.splitK [c] 0 k ((a ++ c :: r).drop ((Lib.index (a ++ c :: r) [c]).toNat + [c].length))) = _
  rw [Lib.index_one, ixB_hit h]
  have : ((a.length : Int) == -1) = false := by simp
  rw [this]
  simp only [Bool.false_eq_true, if_false]
  have h1 : ((a.length : Int)).toNat = a.length := by omega
  rw [h1]
  have h2 : (a ++ c :: r).drop (a.length + [c].length) = r := by
    rw [show a.length + [c].length = (a ++ [c]).length from by simp]
    rw [show a ++ c :: r = (a ++ [c]) ++ r from by simp, List.drop_left]
  rw [h2]
  simp
theorem splitK_zero {c : UInt8} {s : List UInt8} : Lib.splitK [c] 0 0 s = [s] := rfl
end Go.Proofs.YtiapjjgmmiifmaaGreatDoor.Ab

set_option linter.unusedVariables false
set_option linter.unusedSimpArgs false
namespace Go.Proofs.YtiapjjgmmiifmaaGreatDoor.Ab
open Go Go.RowKit
set_option maxHeartbeats 1000000
set_option maxRecDepth 100000
/-- A library's function that hands back a new slice of plain values. -/
theorem c_callsS {P : Program} {w0 : World} {m : Mem} {f : FuncId} {args cs : List Value} {e : TypeId} {Q : Value → Mem → Prop} (hcall : callOk P f = true) (ha : args.all (plainV 6) = true) (hcs : cs.all (plainV 6) = true) (hl : cs.length ≤ maxLen)
    (h : ∀ (G : Loc) (w : World), St P w0 G m w → Calls P f args.toArray w fun ev w' => ev = .returned (.slice (some ⟨w.heap.size, 0, none⟩) cs.length cs.length) ∧ w' = w.alloc (.cells ⟨cs⟩ e))
    (hq : Q (.slice (some ⟨m.next, 0, none⟩) cs.length 1) (m.push (.own cs e))) : AbC P w0 f args m Q := by
  intro G w args' hs hargs
  have ha' : ∀ u ∈ args, plainV 6 u = true := by simpa [List.all_eq_true] using ha
  have he : args' = args := VRs.plain_eq hargs fun u hu u' hr => VR.plain_eq 6 u u' (ha' u hu) hr
  subst he
  rw [run_callFunc_enter hcall]
  show Calls _ _ _ _ _
  refine (h G w hs).mono ?_
  rintro ev w' ⟨rfl, rfl⟩
  have hcs' : VRs G cs cs := by
    rw [List.all_eq_true] at hcs
    exact VRs.refl_of _ fun u hu => VR.plain 6 u (hcs u hu)
  have hn := own_new hs (e := e) (cs' := cs) (extra := []) (0, 0) (open00 _) hcs'
  refine ⟨_, rfl, _, _, _, hn.1, ?_, by simpa using hn.2, hq⟩
  exact .sl _ _ _ _ ((cs ++ []).length) _ _ _ (by simp) (Nat.le_refl _) hl (by simp)
def bchr (c : UInt8) : ByteArray := ⟨#[c]⟩
/-- The words of a text that is split at a byte. -/
def words (c : UInt8) (l : List UInt8) : List (List UInt8) := Lib.splitK [c] 0 (l.count c) l
theorem splitB_words (c : UInt8) (s : ByteArray) : Lib.splitB (bchr c) 0 (Lib.countB s (bchr c)) s = (words c s.data.toList).map fun l => ⟨⟨l⟩⟩ := by
  have h := Lib.splitB_data (bchr c) 0 (Lib.countB s (bchr c)) s
  have hc : Lib.countB s (bchr c) = s.data.toList.count c := Lib.count_one c _
  have h2 := congrArg (List.map fun l : List UInt8 => (⟨⟨l⟩⟩ : ByteArray)) h
  rw [List.map_map] at h2
  have h3 : ((fun l : List UInt8 => (⟨⟨l⟩⟩ : ByteArray)) ∘ fun x : ByteArray => x.data.toList) = id := by funext x; rfl
  rw [h3, List.map_id] at h2
  rw [h2, hc]
  rfl
theorem c_genSplit {w0 : World} {m : Mem} {s : ByteArray} {c : UInt8} {Q : Value → Mem → Prop} (hs : s.size < 4294967281)
    (hq : Q (.slice (some ⟨m.next, 0, none⟩) (words c s.data.toList).length 1) (m.push (.own ((words c s.data.toList).map fun l => .string ⟨⟨l⟩⟩) 9))) : AbC Tryz.prog w0 76 [.string s, .string (bchr c), .int .i64 0, .int .i64 (-1)] m Q := by
  have hcnt : Lib.countB s (bchr c) = s.data.toList.count c := Lib.count_one c _
  have hle : Lib.countB s (bchr c) ≤ s.size := by
    rw [hcnt]
    have := List.count_le_length (a := c) (l := s.data.toList)
    simpa using this
  have hlen := Lib.splitB_all (bchr c) (Nat.le_refl 1) 0 _ s rfl
  have hw := splitB_words c s
  have hcl : ((words c s.data.toList).map fun l => Value.string ⟨⟨l⟩⟩).length = Lib.countB s (bchr c) + 1 := by
    rw [← hlen, hw]; simp
  refine c_callsS (cs := (words c s.data.toList).map fun l => .string ⟨⟨l⟩⟩) (e := 9) (by kernel_rfl) rfl (by rw [List.all_eq_true]; intro u hu; obtain ⟨l, -, rfl⟩ := List.mem_map.1 hu; rfl) (by rw [hcl]; unfold maxLen; omega) (fun G w hst => ?_) (by simpa using hq)
  have h := Any.strings_genSplit_core Tryz.lays221 (by kernel_rfl) s (bchr c) 0 (-1) (Lib.countB s (bchr c) + 1) w hs (Nat.le_refl 1) (Nat.zero_le _)
    (fun x cc _ => by
      have := Tryz.strings_Index_one x c (w.alloc (.cells cc (Tryz.lays221_ren.t 9)))
      rw [← Lib.index_one] at this
      exact this)
    (by
      have := Tryz.strings_Count_one s c w
      rw [show (Lib.countByte s.data.toList c : Nat) = Lib.countB s (bchr c) from hcnt.symm] at this
      exact this) (by decide) (by decide) (by rw [if_pos (by decide)]; omega)
  refine h.mono ?_
  rintro e w' ⟨rfl, rfl⟩
  rw [Nat.add_sub_cancel, hlen, hcl]
  refine ⟨rfl, ?_⟩
  have e2 : Lib.cellsOf (Lib.splitB (bchr c) 0 (Lib.countB s (bchr c)) s) (Lib.countB s (bchr c) + 1) = ((Lib.splitB (bchr c) 0 (Lib.countB s (bchr c)) s).map Value.string).toArray := by rw [← hlen]; exact Lib.cellsOf_full _
  rw [e2, hw, List.map_map]
  rfl
theorem c_Split {w0 : World} {m : Mem} {s : ByteArray} {c : UInt8} {Q : Value → Mem → Prop} (hs : s.size < 4294967281)
    (hq : Q (.slice (some ⟨m.next, 0, none⟩) (words c s.data.toList).length 1) (m.push (.own ((words c s.data.toList).map fun l => .string ⟨⟨l⟩⟩) 9))) : AbC Tryz.prog w0 62 [.string s, .string (bchr c)] m Q := by
  refine AbC_fn ok62 (by simp) ?_
  simp -implicitDefEqProofs (disch := first | assumption | (simp only [wnA]; done) | (simp only [wnA]; omega) | omega | fail) [rc62, ro62, wkA, retV, stabOk, dC, ev, fillD, pickCells, putAt, bnd, slD, List.getElem?_cons_zero, List.getElem?_cons_succ, dR_sl, Mem.cell, Mem.row, wmA]
  refine c_genSplit hs ?_
  simp -implicitDefEqProofs (disch := first | assumption | (simp only [wnA]; done) | (simp only [wnA]; omega) | omega | fail) [wkA, retV, stabOk, dC, ev, fillD, pickCells, putAt, bnd, slD, List.getElem?_cons_zero, List.getElem?_cons_succ, dR_sl, Mem.cell, Mem.row, wmA]
  exact hq
end Go.Proofs.YtiapjjgmmiifmaaGreatDoor.Ab

set_option linter.unusedVariables false
set_option linter.unusedSimpArgs false
namespace Go.Proofs.YtiapjjgmmiifmaaGreatDoor.Ab
open Go Go.RowKit
set_option maxHeartbeats 4000000
set_option maxRecDepth 100000
theorem Part.keepV {L : LM} {V : Nat → Prop} {m m' : Mem} (h : Part L m) (k : Keeps V m m') (hV : ∀ i, i < L.n → V i) : Part L m' := by
  refine ⟨Nat.le_trans h.1 k.1, fun i => ?_⟩
  rcases h.2 i with h1 | ⟨cs, h1, h2, h3⟩
  · exact .inl h1
  · have hi : i < L.n := by
      rcases Nat.lt_or_ge i L.n with h' | h'
      · exact h'
      · rw [LM.get_ge (by omega)] at h1; cases h1
    exact .inr ⟨cs, h1, by rw [k.2 i (Nat.lt_of_lt_of_le hi h.1) (hV i hi)]; exact h2, h3⟩
section
variable {P : Program} {w0 : World} {ts : Fr} {m : Mem} {R : Value → Mem → Prop}
theorem SK_cvm {e : TypeId} {x : Operand} {i o n z : Nat} {cs : List Value} (hx : ev ts x = .slice (some ⟨i, o, none⟩) n z) (hm : m.get i = .own cs e) (hR : R (.slice (some ⟨i, o, none⟩) n z) m) : SK P w0 (.e (.cvm e x)) ts m R := by
  simp only [SK, dE, hx, hm, if_true]
  exact hR
/-- More is put behind an own slice; of it, and of none. -/
theorem SK_appK {e sz bytes n k : Nat} {ob : Option Nat} {cs ys : List Value} {x y : Operand} (h : SlO m e sz ob cs n) (hx : ev ts x = slV ob n sz) (hy : elemsV m sz (ev ts y) = some ys) (hk : lenV (ev ts y) = k)
    (h1 : ys.all oneC = true) (h2 : (n + k) * bytes ≤ 140737488355328) (h3 : n + k ≤ maxLen) (hl : ys.length = k * sz)
    (hR : ∀ ob' m', SlO m' e sz ob' (cs ++ ys) (n + k) → m.next ≤ m'.next → (∀ i, i < m.next → ob ≠ some i → m'.get i = m.get i) → (∀ b, ob' = some b → ob = some b ∨ m.next ≤ b) → R (slV ob' (n + k) sz) m') : SK P w0 (.e (.app e sz bytes x y)) ts m R := by
  by_cases hpos : 0 < k
  · refine SK_app h hx hy hk hpos h1 h2 h3 hl fun m' q1 q2 q3 => ?_
    exact hR (some m.next) m' q1 (by omega) (fun i hi hne => q3 i hi fun b hb e => hne (by rw [hb, e])) fun b hb => by cases hb; exact .inr (Nat.le_refl _)
  · have hk0 : k = 0 := by omega
    subst hk0
    have : ys = [] := by simpa using hl
    subst this
    refine SK_app0 hx hy hk ?_
    simpa using hR ob m (by simpa using h) (Nat.le_refl _) (fun i hi _ => rfl) fun b hb => .inl hb
end
theorem SlR.bstr {m : Mem} {v : Value} {l : List UInt8} (h : SlR m 1 v (l.map byteV) l.length) : bstr m v = some (.string ⟨⟨l⟩⟩) := by
  rcases h.2 with ⟨h0, h1⟩ | ⟨i, o, L, rfl, h2, h3, h4⟩
  · have : l = [] := List.length_eq_zero_iff.1 h0
    subst this
    rcases h1 with rfl | rfl <;> rfl
  · rw [Nat.mul_one] at h3 h4
    have hr : m.row i o l.length = some (l.map byteV) := by
      simp only [Mem.row, h2]
      rw [if_pos h3, h4]
    simp only [Ab.bstr, hr, bytesOf_mapN]
structure Tg where
  sp : Nat
  mem : List Value
  tr : Int
  wt : Int
  asleep : Bool
  line : List UInt8
  addr : Int
  reps : List (Int × Int × Nat)
def repC (r : Int × Int × Nat) : List Value := [.int .i64 r.1, .int .i64 r.2.1, .int .u32 (r.2.2 : Int)]
theorem repC_len (r : Int × Int × Nat) : (repC r).length = 3 := rfl
def tgC (s : Tg) (vl vr : Value) : List Value := [.pointer (some ⟨s.sp, 0, none⟩), .int .i64 s.tr, .int .i64 s.wt, .bool s.asleep, vl, .nilIface, .int .i64 s.addr, vr]
structure TgO (V : Nat → Prop) (m : Mem) (it : Nat) (s : Tg) (ol orr : Option Nat) : Prop where
  g : m.get it = .own (tgC s (slV ol s.line.length 1) (slV orr s.reps.length 3)) 34
  lt : it < m.next
  nv : ¬ V it
  ln : SlO m 5 1 ol (s.line.map byteV) s.line.length
  lv : ∀ b, ol = some b → ¬ V b
  rn : SlO m 44 3 orr (s.reps.flatMap repC) s.reps.length
  rv : ∀ b, orr = some b → ¬ V b
  sg : m.get s.sp = .own s.mem 75
  sl : s.sp < m.next
  sv : ¬ V s.sp
  ll : s.line.length ≤ 80
  vl : ∀ i, V i → i < m.next
def TgV (V : Nat → Prop) (m : Mem) (it : Nat) (s : Tg) : Prop := ∃ ol orr, TgO V m it s ol orr
theorem TgO.far {V : Nat → Prop} {m m' : Mem} {it : Nat} {s : Tg} {ol orr : Option Nat} (h : TgO V m it s ol orr) (hn : m.next ≤ m'.next) (hk : ∀ i, i < m.next → ¬ V i → m'.get i = m.get i) : TgO V m' it s ol orr where
  g := by rw [hk _ h.lt h.nv]; exact h.g
  lt := Nat.lt_of_lt_of_le h.lt hn
  nv := h.nv
  ln := h.ln.keep hn fun b hb => hk b (by have := h.ln; rw [hb] at this; exact this.lt) (h.lv b hb)
  lv := h.lv
  rn := h.rn.keep hn fun b hb => hk b (by have := h.rn; rw [hb] at this; exact this.lt) (h.rv b hb)
  rv := h.rv
  sg := by rw [hk _ h.sl h.sv]; exact h.sg
  sl := Nat.lt_of_lt_of_le h.sl hn
  sv := h.sv
  ll := h.ll
  vl := fun i hi => Nat.lt_of_lt_of_le (h.vl i hi) hn
theorem TgO.weak {V W : Nat → Prop} {m : Mem} {it : Nat} {s : Tg} {ol orr : Option Nat} (h : TgO V m it s ol orr) (hw : ∀ i, W i → V i) : TgO W m it s ol orr where
  g := h.g
  lt := h.lt
  nv := fun x => h.nv (hw _ x)
  ln := h.ln
  lv := fun b hb x => h.lv b hb (hw b x)
  rn := h.rn
  rv := fun b hb x => h.rv b hb (hw b x)
  sg := h.sg
  sl := h.sl
  sv := fun x => h.sv (hw _ x)
  ll := h.ll
  vl := fun i hi => h.vl i (hw i hi)
def promptL : List UInt8 := [13, 10, 61, 62, 32]
/-- What is told of a byte, and the board behind it: whatever else lies in V. -/
def PutOk (it : Nat) (s : Tg) (c : UInt8) (o : List UInt8) (s' : Tg) : Prop := ∀ (w0 : World) (V : Nat → Prop) (m : Mem) (Q : Value → Mem → Prop), Ten w0 → (∀ i, i < L0.n → V i) → Part L0 m → TgV V m it s →
  (∀ v m', TgV V m' it s' → Keeps V m m' → SlR m' 1 v (o.map byteV) o.length → (∀ b, blk v = some b → m.next ≤ b) → Q v m') → AbC Tryz.prog w0 30 [.pointer (some ⟨it, 0, none⟩), .int .u8 (c.toNat : Int)] m Q
theorem put_wake {it : Nat} {s : Tg} {c : UInt8} (ha : s.asleep = true) : PutOk it s c promptL { s with asleep := false } := by
  intro w0 V m Q ht hV hp hT hq
  obtain ⟨ol, orr, hT⟩ := hT
  obtain ⟨sp, mem, tr, wt, asl, line, addr, reps⟩ := s
  simp only at ha
  subst ha
  have hg := hT.g
  simp only [tgC] at hg
  refine AbC_fn ok30 (by simp) ?_
  simp -implicitDefEqProofs (disch := first | assumption | (simp only [wnA]; done) | (simp only [wnA]; omega) | omega | fail) [rc30, ro30, wkA, retV, stabOk, dC, ev, fillD, pickCells, putAt, bnd, slD, List.getElem?_cons_zero, List.getElem?_cons_succ, dR.eq_20, Mem.cell, Mem.row, wmA, hg]
  refine SK_stK (i := it) (o := 3) (by simp [wkA, retV, stabOk, dC, ev, fillD, pickCells, putAt, bnd, slD, List.getElem?_cons_zero, List.getElem?_cons_succ, dR.eq_20]) (e := 34) hg (vs := [.bool false]) rfl (by simp) rfl rfl rfl ?_
  simp -implicitDefEqProofs (disch := first | assumption | (simp only [wnA]; done) | (simp only [wnA]; omega) | omega | fail) [wkA, retV, stabOk, dC, ev, fillD, pickCells, putAt, bnd, slD, List.getElem?_cons_zero, List.getElem?_cons_succ, dR.eq_20, Mem.cell, Mem.row, wmA]
  rw [SK_bsl (cs := promptL.map byteV) (by simp [fillD, pickCells, wkA, retV, stabOk, dC, ev, fillD, pickCells, putAt, bnd, slD, List.getElem?_cons_zero, List.getElem?_cons_succ, dR.eq_20, promptL, byteV]) rfl]
  simp -implicitDefEqProofs (disch := first | assumption | (simp only [wnA]; done) | (simp only [wnA]; omega) | omega | fail) [wkA, retV, stabOk, dC, ev, fillD, pickCells, putAt, bnd, slD, List.getElem?_cons_zero, List.getElem?_cons_succ, dR.eq_20, Mem.cell, Mem.row, wmA]
  refine SK_cvm (i := m.next) (o := 0) (n := 5) (z := 1) (cs := promptL.map byteV) (by simp [wkA, retV, stabOk, dC, ev, fillD, pickCells, putAt, bnd, slD, List.getElem?_cons_zero, List.getElem?_cons_succ, dR.eq_20]) (Mem.push_at _ _ (by simp)) ?_
  simp -implicitDefEqProofs (disch := first | assumption | (simp only [wnA]; done) | (simp only [wnA]; omega) | omega | fail) [wkA, retV, stabOk, dC, ev, fillD, pickCells, putAt, bnd, slD, List.getElem?_cons_zero, List.getElem?_cons_succ, dR.eq_20, Mem.cell, Mem.row, wmA]
  have hne : it ≠ m.next := by have := hT.lt; omega
  have hls : sp < m.next := hT.sl
  have hns : sp ≠ it := fun e => by
    have h1 := hT.sg
    simp only at h1
    rw [e, hg] at h1
    cases h1
  refine hq _ _ ⟨ol, orr, ?_⟩ (((Keeps.refl V m).set (fun _ => hT.nv) _).push _) ?_ ?_
  · have k1 : ∀ i, i < m.next → i ≠ it → ((m.set it (.own [.pointer (some ⟨sp, 0, none⟩), .int .i64 tr, .int .i64 wt, .bool false, slV ol line.length 1, .nilIface, .int .i64 addr, slV orr reps.length 3] 34)).push (.own (promptL.map byteV) 5)).get i = m.get i := fun i hi hn => by
      rw [Mem.push_old _ _ (by simpa using hi), Mem.set_other _ _ hn]
    exact {
      g := by rw [Mem.push_old _ _ (by simpa using hT.lt)]; simp [tgC]
      lt := by have := hT.lt; simp; omega
      nv := hT.nv
      ln := hT.ln.keep (by simp) fun b hb => k1 b (by have := hT.ln; rw [hb] at this; exact this.lt) fun e => hT.ln.ne hg (fun c h => by injection h with _ h; exact absurd h (by decide)) (by rw [hb, e])
      lv := hT.lv
      rn := hT.rn.keep (by simp) fun b hb => k1 b (by have := hT.rn; rw [hb] at this; exact this.lt) fun e => hT.rn.ne hg (fun c h => by injection h with _ h; exact absurd h (by decide)) (by rw [hb, e])
      rv := hT.rv
      sg := by show _ = Ent.own mem _; rw [k1 _ hls hns]; exact hT.sg
      sl := by show sp < _; simp; omega
      sv := hT.sv
      ll := hT.ll
      vl := fun i hi => by have := hT.vl i hi; simp; omega }
  · exact ⟨by simp [promptL], .inr ⟨m.next, 0, promptL.map byteV, rfl, by rw [Mem.push_at _ _ (by simp)]; rfl, by simp [promptL], by simp [promptL]⟩⟩
  · intro b hb; cases hb; exact Nat.le_refl _
end Go.Proofs.YtiapjjgmmiifmaaGreatDoor.Ab

set_option linter.unusedVariables false
set_option linter.unusedSimpArgs false
namespace Go.Proofs.YtiapjjgmmiifmaaGreatDoor.Ab
open Go Go.RowKit
set_option maxHeartbeats 4000000
set_option maxRecDepth 100000
theorem words_head {x : UInt8} {r : List UInt8} (hx : x ≠ 32) : ∃ w ws, words 32 (x :: r) = (x :: w) :: ws := by
  by_cases h : (32 : UInt8) ∈ x :: r
  · obtain ⟨a, b, e, hn⟩ := List.eq_append_cons_of_mem h
    have hc : (x :: r).count 32 = b.count 32 + 1 := by rw [e, List.count_append, List.count_cons_self, List.count_eq_zero.2 hn]; omega
    cases a with
    | nil => simp at e; exact absurd e.1 hx
    | cons y a =>
      simp only [List.cons_append, List.cons.injEq] at e
      obtain ⟨rfl, e⟩ := e
      unfold words
      rw [hc, e, ← List.cons_append, splitK_hit hn]
      exact ⟨a, _, rfl⟩
  · unfold words
    rw [List.count_eq_zero.2 h, splitK_zero]
    exact ⟨r, [], rfl⟩
theorem words_nil : words 32 [] = [[]] := rfl
theorem TgO.keepC {V : Nat → Prop} {m m' : Mem} {it : Nat} {s : Tg} {ol orr ol' : Option Nat} {line' : List UInt8} {asl : Bool} (h : TgO V m it s ol orr) (hn : m.next ≤ m'.next) (hk : ∀ i, i < m.next → ¬ V i → i ≠ it → ol ≠ some i → m'.get i = m.get i)
    (hg : m'.get it = .own (tgC { s with line := line', asleep := asl } (slV ol' line'.length 1) (slV orr s.reps.length 3)) 34) (ln : SlO m' 5 1 ol' (line'.map byteV) line'.length) (lv : ∀ b, ol' = some b → ¬ V b) (ll : line'.length ≤ 80) :
    TgO V m' it { s with line := line', asleep := asl } ol' orr := by
  have h0 := h.g
  have rk : ∀ b, orr = some b → b ≠ it ∧ ol ≠ some b := fun b hb => by
    have hr := h.rn
    rw [hb] at hr
    refine ⟨own_ne hr.2.1 h0 (by decide), fun e => ?_⟩
    have hl := h.ln
    rw [e] at hl
    exact own_ne hr.2.1 hl.2.1 (by decide) rfl
  exact {
    g := hg
    lt := Nat.lt_of_lt_of_le h.lt hn
    nv := h.nv
    ln := ln
    lv := lv
    rn := h.rn.keep hn fun b hb => hk b (by have := h.rn; rw [hb] at this; exact this.lt) (h.rv b hb) (rk b hb).1 (rk b hb).2
    rv := h.rv
    sg := by
      show _ = Ent.own s.mem _
      rw [hk _ h.sl h.sv (own_ne h.sg h0 (by decide)) fun e => ?_]
      · exact h.sg
      · have hl := h.ln
        rw [e] at hl
        exact own_ne h.sg hl.2.1 (by decide) rfl
    sl := Nat.lt_of_lt_of_le h.sl hn
    sv := h.sv
    ll := ll
    vl := fun i hi => Nat.lt_of_lt_of_le (h.vl i hi) hn }
def pushL (l : List UInt8) (c : UInt8) : List UInt8 := if l.length < 80 then l ++ [c] else l
theorem put_char {it : Nat} {s : Tg} {c : UInt8} (ha : s.asleep = false) (hc : c ≠ 13) : PutOk it s c [] { s with line := pushL s.line c } := by
  intro w0 V m Q ht hV hp hT hq
  obtain ⟨ol, orr, hT⟩ := hT
  obtain ⟨sp, mem, tr, wt, asl, line, addr, reps⟩ := s
  simp only at ha
  subst ha
  have hg := hT.g
  simp only [tgC] at hg
  have hc2 : ((c.toNat : Int) == 13) = false := by
    simp only [beq_eq_false_iff_ne]
    intro e
    exact hc (UInt8.toNat_inj.1 (by show c.toNat = 13; omega))
  refine AbC_fn ok30 (by simp) ?_
  simp -implicitDefEqProofs (disch := first | assumption | (simp only [wnA]; done) | (simp only [wnA]; omega) | omega | fail) [rc30, ro30, wkA, retV, stabOk, dC, ev, fillD, pickCells, putAt, bnd, slD, List.getElem?_cons_zero, List.getElem?_cons_succ, dR.eq_20, Mem.cell, Mem.row, wmA, hg, rc30_2, hc2, rc30_1, hT.ln.slen]
  have hll : line.length ≤ 80 := hT.ll
  by_cases hlt : line.length < 80
  · have hlt' : (line.length : Int) < 80 := by omega
    simp only [pushL, if_pos hlt] at hq
    simp -implicitDefEqProofs (disch := first | assumption | (simp only [wnA]; done) | (simp only [wnA]; omega) | omega | fail) [wkA, retV, stabOk, dC, ev, fillD, pickCells, putAt, bnd, slD, List.getElem?_cons_zero, List.getElem?_cons_succ, dR.eq_20, Mem.cell, Mem.row, wmA, hlt', hg]
    rw [SK_bsl (cs := [byteV c]) (by simp [fillD, pickCells, wkA, retV, stabOk, dC, ev, fillD, pickCells, putAt, bnd, slD, List.getElem?_cons_zero, List.getElem?_cons_succ, dR.eq_20, byteV]) rfl]
    simp -implicitDefEqProofs (disch := first | assumption | (simp only [wnA]; done) | (simp only [wnA]; omega) | omega | fail) [wkA, retV, stabOk, dC, ev, fillD, pickCells, putAt, bnd, slD, List.getElem?_cons_zero, List.getElem?_cons_succ, dR.eq_20, Mem.cell, Mem.row, wmA, hg]
    have hln := hT.ln
    have hne : it ≠ m.next := by have := hT.lt; omega
    have hln1 : SlO (m.push (.own [byteV c] 5)) 5 1 ol (line.map byteV) line.length := hT.ln.push _
    refine SK_ap (k := 1) (ys := [byteV c]) hln1 (by simp [wkA, retV, stabOk, dC, ev, fillD, pickCells, putAt, bnd, slD, List.getElem?_cons_zero, List.getElem?_cons_succ, dR.eq_20]) ?_ ?_ (by omega) rfl (by omega) (by unfold maxLen; omega) (by simp) ?_
    · simp [wkA, retV, stabOk, dC, ev, fillD, pickCells, putAt, bnd, slD, List.getElem?_cons_zero, List.getElem?_cons_succ, dR.eq_20, elemsV, Mem.row, Mem.cell, Mem.row, wmA]
    · simp [wkA, retV, stabOk, dC, ev, fillD, pickCells, putAt, bnd, slD, List.getElem?_cons_zero, List.getElem?_cons_succ, dR.eq_20, lenV]
    have hoi : ol ≠ some it := fun e => hT.ln.ne hg (fun c h => by injection h with _ h; exact absurd h (by decide)) e
    have hg2 : (((m.push (.own [byteV c] 5)).kill ol).push (.own (line.map byteV ++ [byteV c]) 5)).get it = .own [.pointer (some ⟨sp, 0, none⟩), .int .i64 tr, .int .i64 wt, .bool false, slV ol line.length 1, .nilIface, .int .i64 addr, slV orr reps.length 3] 34 := by
      rw [Mem.push_old _ _ (by simp [Mem.kill_nxt]; have := hT.lt; omega), Mem.kill_other _ hoi, Mem.push_old _ _ hT.lt]; exact hg
    simp -implicitDefEqProofs (disch := first | assumption | (simp only [wnA]; done) | (simp only [wnA]; omega) | omega | fail) [wkA, retV, stabOk, dC, ev, fillD, pickCells, putAt, bnd, slD, List.getElem?_cons_zero, List.getElem?_cons_succ, dR.eq_20, Mem.cell, Mem.row, wmA, hg2]
    refine SK_stK (i := it) (o := 4) (by simp [wkA, retV, stabOk, dC, ev, fillD, pickCells, putAt, bnd, slD, List.getElem?_cons_zero, List.getElem?_cons_succ, dR.eq_20]) (e := 34) hg2 (vs := [slV (some (m.next + 1)) (line.length + 1) 1]) (by simp [wkA, retV, stabOk, dC, ev, fillD, pickCells, putAt, bnd, slD, List.getElem?_cons_zero, List.getElem?_cons_succ, dR.eq_20, slV, Mem.kill_nxt]) (by simp) rfl rfl rfl ?_
    simp -implicitDefEqProofs (disch := first | assumption | (simp only [wnA]; done) | (simp only [wnA]; omega) | omega | fail) [wkA, retV, stabOk, dC, ev, fillD, pickCells, putAt, bnd, slD, List.getElem?_cons_zero, List.getElem?_cons_succ, dR.eq_20, Mem.cell, Mem.row, wmA, rc30_0]
    refine hq _ _ ⟨some (m.next + 1), orr, hT.keepC (by simp [Mem.kill_nxt]; omega) ?_ ?_ ?_ ?_ ?_⟩ ?_ ?_ ?_
    · intro i hi hv hit hol
      rw [Mem.set_other _ _ hit, Mem.push_old _ _ (by simp [Mem.kill_nxt]; omega), Mem.kill_other _ hol, Mem.push_old _ _ hi]
    · simp [tgC, putAt, slV]
    · refine ⟨by simp, ?_, by simp [Mem.kill_nxt]⟩
      rw [Mem.set_other _ _ (by have := hT.lt; omega), Mem.push_at _ _ (by simp [Mem.kill_nxt])]
      simp
    · intro b hb
      cases hb
      intro hv
      have := hT.vl _ hv
      omega
    · simp; omega
    · exact ((((Keeps.refl V m).push _).kill fun i hi _ => hT.lv i hi).push _).set (fun _ => hT.nv) _
    · exact ⟨rfl, .inl ⟨rfl, .inl rfl⟩⟩
    · intro b hb; cases hb
  · have hlt' : ¬ (line.length : Int) < 80 := by omega
    simp only [pushL, if_neg hlt] at hq
    simp -implicitDefEqProofs (disch := first | assumption | (simp only [wnA]; done) | (simp only [wnA]; omega) | omega | fail) [wkA, retV, stabOk, dC, ev, fillD, pickCells, putAt, bnd, slD, List.getElem?_cons_zero, List.getElem?_cons_succ, dR.eq_20, Mem.cell, Mem.row, wmA, hlt', hg, rc30_0]
    exact hq _ _ ⟨ol, orr, hT⟩ (Keeps.refl V m) ⟨rfl, .inl ⟨rfl, .inl rfl⟩⟩ fun b hb => by cases hb
/-- What a line does, and the board behind it. -/
def DoesOk (it : Nat) (s : Tg) (line t : List UInt8) (s' : Tg) : Prop := ∀ (w0 : World) (V : Nat → Prop) (m : Mem) (Q : Value → Mem → Prop), Ten w0 → (∀ i, i < L0.n → V i) → Part L0 m → TgV V m it s →
  (∀ m', TgV V m' it s' → Keeps V m m' → Q (.string ⟨⟨t⟩⟩) m') → AbC Tryz.prog w0 45 [.pointer (some ⟨it, 0, none⟩), .string ⟨⟨line⟩⟩] m Q
theorem put_cr {it : Nat} {s : Tg} {t : List UInt8} {s' : Tg} (ha : s.asleep = false) (hd : DoesOk it { s with line := [] } s.line t s') (htl : t.length ≤ 140737488355328) : PutOk it s 13 t s' := by
  intro w0 V m Q ht hV hp hT hq
  obtain ⟨ol, orr, hT⟩ := hT
  obtain ⟨sp, mem, tr, wt, asl, line, addr, reps⟩ := s
  simp only at ha hd
  subst ha
  have hg := hT.g
  simp only [tgC] at hg
  have hls := hT.ln.read
  have hbs : bstr m (slV ol line.length 1) = some (.string ⟨⟨line⟩⟩) := hT.ln.read.bstr
  refine AbC_fn ok30 (by simp) ?_
  have e13 : (((13 : UInt8).toNat : Int) == 13) = true := rfl
  simp -implicitDefEqProofs (disch := first | assumption | (simp only [wnA]; done) | (simp only [wnA]; omega) | omega | fail) [rc30, ro30, wkA, retV, stabOk, dC, ev, fillD, pickCells, putAt, bnd, slD, List.getElem?_cons_zero, List.getElem?_cons_succ, dR.eq_20, Mem.cell, Mem.row, wmA, hg, rc30_2, e13, hbs]
  refine SK_stK (i := it) (o := 4) (by simp [wkA, retV, stabOk, dC, ev, fillD, pickCells, putAt, bnd, slD, List.getElem?_cons_zero, List.getElem?_cons_succ, dR.eq_20]) (e := 34) hg (vs := [.slice none 0 0]) rfl (by simp) rfl rfl rfl ?_
  simp -implicitDefEqProofs (disch := first | assumption | (simp only [wnA]; done) | (simp only [wnA]; omega) | omega | fail) [wkA, retV, stabOk, dC, ev, fillD, pickCells, putAt, bnd, slD, List.getElem?_cons_zero, List.getElem?_cons_succ, dR.eq_20, Mem.cell, Mem.row, wmA]
  have hoi : ol ≠ some it := fun e => hT.ln.ne hg (fun c h => by injection h with _ h; exact absurd h (by decide)) e
  have k0 : Keeps V m (m.set it (.own (putAt [.pointer (some ⟨sp, 0, none⟩), .int .i64 tr, .int .i64 wt, .bool false, slV ol line.length 1, .nilIface, .int .i64 addr, slV orr reps.length 3] 4 [.slice none 0 0]) 34)) := (Keeps.refl V m).set (fun _ => hT.nv) _
  refine hd w0 V _ _ ht hV (hp.keepV k0 hV) ⟨none, orr, hT.keepC (ol' := none) (line' := []) (asl := false) (by simp) ?_ ?_ ?_ ?_ (by simp)⟩ fun m1 hT1 k1 => ?_
  · intro i hi hv hit hol
    rw [Mem.set_other _ _ hit]
  · simp [tgC, putAt, slV]
  · exact ⟨rfl, rfl⟩
  · intro b hb; cases hb
  simp -implicitDefEqProofs (disch := first | assumption | (simp only [wnA]; done) | (simp only [wnA]; omega) | omega | fail) [wkA, retV, stabOk, dC, ev, fillD, pickCells, putAt, bnd, slD, List.getElem?_cons_zero, List.getElem?_cons_succ, dR.eq_20, Mem.cell, Mem.row, wmA]
  rw [SK_s2b (s := ⟨⟨t⟩⟩) (by simp [wkA, retV, stabOk, dC, ev, fillD, pickCells, putAt, bnd, slD, List.getElem?_cons_zero, List.getElem?_cons_succ, dR.eq_20]) htl]
  simp -implicitDefEqProofs (disch := first | assumption | (simp only [wnA]; done) | (simp only [wnA]; omega) | omega | fail) [wkA, retV, stabOk, dC, ev, fillD, pickCells, putAt, bnd, slD, List.getElem?_cons_zero, List.getElem?_cons_succ, dR.eq_20, Mem.cell, Mem.row, wmA]
  obtain ⟨ol1, or1, hT1⟩ := hT1
  have k2 := k0.trans k1
  refine hq _ _ ⟨ol1, or1, hT1.far (by simp) fun i hi _ => Mem.push_old _ _ hi⟩ (k2.push _) ?_ ?_
  · exact ⟨by simp, .inr ⟨m1.next, 0, t.map byteV, rfl, by rw [Mem.push_at _ _ rfl]; rfl, by simp, by rw [Nat.mul_one, List.drop_zero, List.take_of_length_le (by simp)]⟩⟩
  · intro b hb; cases hb; exact k2.1
def askedL : List UInt8 := 63 :: promptL
theorem does_nil {it : Nat} {s : Tg} : DoesOk it s [] promptL s := by
  intro w0 V m Q ht hV hp hT hq
  refine AbC_fn ok45 (by simp) ?_
  simp -implicitDefEqProofs (disch := first | assumption | (simp only [wnA]; done) | (simp only [wnA]; omega) | omega | fail) [rc45, ro45, wkA, retV, stabOk, dC, ev, fillD, pickCells, putAt, bnd, slD, List.getElem?_cons_zero, List.getElem?_cons_succ, dR.eq_20, Mem.cell, Mem.row, wmA]
  refine c_Split (c := 32) (by show (0 : Nat) < _; omega) ?_
  rw [show (ByteArray.mk #[]).data.toList = ([] : List UInt8) from rfl, words_nil]
  simp -implicitDefEqProofs (disch := first | assumption | (simp only [wnA]; done) | (simp only [wnA]; omega) | omega | fail) [wkA, retV, stabOk, dC, ev, fillD, pickCells, putAt, bnd, slD, List.getElem?_cons_zero, List.getElem?_cons_succ, dR.eq_20, Mem.cell, Mem.row, wmA, rc45_2, rc45_1]
  obtain ⟨ol, orr, hT⟩ := hT
  exact hq _ ⟨ol, orr, hT.far (by simp) fun i hi _ => Mem.push_old _ _ hi⟩ ((Keeps.refl V m).push _)
theorem does_q {it : Nat} {s : Tg} {r : List UInt8} (hr : r.length ≤ 80) : DoesOk it s (63 :: r) askedL s := by
  intro w0 V m Q ht hV hp hT hq
  refine AbC_fn ok45 (by simp) ?_
  simp -implicitDefEqProofs (disch := first | assumption | (simp only [wnA]; done) | (simp only [wnA]; omega) | omega | fail) [rc45, ro45, wkA, retV, stabOk, dC, ev, fillD, pickCells, putAt, bnd, slD, List.getElem?_cons_zero, List.getElem?_cons_succ, dR.eq_20, Mem.cell, Mem.row, wmA]
  refine c_Split (c := 32) (by show r.length + 1 < _; omega) ?_
  obtain ⟨w, ws, hw⟩ := words_head (x := 63) (r := r) (by decide)
  rw [show (ByteArray.mk ⟨63 :: r⟩).data.toList = 63 :: r from rfl, hw]
  obtain ⟨ol, orr, hT⟩ := hT
  have fin := hq _ ⟨ol, orr, hT.far (by simp) fun i hi _ => Mem.push_old _ (.own (((63 :: w) :: ws).map fun l => .string ⟨⟨l⟩⟩) 9) hi⟩ ((Keeps.refl V m).push _)
  by_cases h3 : ws.length + 1 = 3
  · obtain ⟨a, b, rfl⟩ : ∃ a b, ws = [a, b] := by
      match ws, h3 with
      | [a, b], _ => exact ⟨a, b, rfl⟩
    have hidx : sidx 1 (.slice (some ⟨m.next, 0, none⟩) 3 1) (.int .i64 0) = some (.pointer (some ⟨m.next, 0, none⟩)) := rfl
    have b1 : ((63 :: w : List UInt8) == [108, 111, 97, 100]) = false := rfl
    have b2 : ((63 :: w : List UInt8) == [115, 117, 109]) = false := rfl
    simp -implicitDefEqProofs (disch := first | assumption | (simp only [wnA]; done) | (simp only [wnA]; omega) | omega | fail) [wkA, retV, stabOk, dC, ev, fillD, pickCells, putAt, bnd, slD, List.getElem?_cons_zero, List.getElem?_cons_succ, dR.eq_20, Mem.cell, Mem.row, wmA, hidx, b1, b2, rc45_2, rc45_1, rc45_0]
    exact fin
  · have h3' : ((ws.length : Int) + 1 == 3) = false := by simp; omega
    simp -implicitDefEqProofs (disch := first | assumption | (simp only [wnA]; done) | (simp only [wnA]; omega) | omega | fail) [wkA, retV, stabOk, dC, ev, fillD, pickCells, putAt, bnd, slD, List.getElem?_cons_zero, List.getElem?_cons_succ, dR.eq_20, Mem.cell, Mem.row, wmA, h3', rc45_2, rc45_1, rc45_0]
    exact fin
end Go.Proofs.YtiapjjgmmiifmaaGreatDoor.Ab

set_option linter.unusedVariables false
set_option linter.unusedSimpArgs false
namespace Go.Proofs.YtiapjjgmmiifmaaGreatDoor.Ab
open Go Go.RowKit
set_option maxHeartbeats 4000000
set_option maxRecDepth 100000
def outN (ot : Nat → List UInt8) : Nat → List UInt8
  | 0 => []
  | j + 1 => outN ot j ++ ot j
theorem c_tPut {w0 : World} {V : Nat → Prop} {m : Mem} {it : Nat} {b : List UInt8} {v : Value} {st : Nat → Tg} {ot : Nat → List UInt8} {Q : Value → Mem → Prop} (ht : Ten w0) (hV : ∀ i, i < L0.n → V i) (hp : Part L0 m) (hT : TgV V m it (st 0))
    (hv : SlR m 1 v (b.map byteV) b.length) (hvb : ∀ i, blk v = some i → V i) (hbl : b.length ≤ 9223372036854775806) (hol : ∀ j, j ≤ b.length → (outN ot j).length ≤ 140737488355328) (hok : ∀ j (hj : j < b.length), PutOk it (st j) b[j] (ot j) (st (j + 1)))
    (hq : ∀ u m', TgV V m' it (st b.length) → Keeps V m m' → SlR m' 1 u ((outN ot b.length).map byteV) (outN ot b.length).length → (∀ i, blk u = some i → m.next ≤ i) → Q u m') :
    AbC Tryz.prog w0 12 [.pointer (some ⟨it, 0, none⟩), v] m Q := by
  refine AbC_fn ok12 (by simp) ?_
  have hT0 := hT
  obtain ⟨ol0, or0, hT1⟩ := hT
  have hg := hT1.g
  generalize hs0 : st 0 = s0 at *
  obtain ⟨sp, mem, tr, wt, asl, line, addr, reps⟩ := s0
  simp only [tgC] at hg
  simp -implicitDefEqProofs (disch := first | assumption | (simp only [wnA]; done) | (simp only [wnA]; omega) | omega | fail) [rc12, ro12, wkA, retV, stabOk, dC, ev, fillD, pickCells, putAt, bnd, slD, List.getElem?_cons_zero, List.getElem?_cons_succ, dR.eq_20, Mem.cell, Mem.row, wmA, hg, rc12_3, hv.slen]
  refine LoopW_of (fun k ts m' => ∃ j ob, j + k = b.length ∧ Keeps V m m' ∧ SlO m' 5 1 ob ((outN ot j).map byteV) (outN ot j).length ∧ (∀ i, ob = some i → m.next ≤ i) ∧ TgV (fun i => V i ∨ ob = some i) m' it (st j) ∧ ts 0 = .pointer (some ⟨it, 0, none⟩) ∧ ts 5 = slV ob (outN ot j).length 1 ∧ ts 21 = v ∧ ts 22 = .int .i64 (b.length : Nat) ∧ ts 23 = .int .i64 (j : Nat)) b.length ?_ ?_
  · have h1 : SlO m 5 1 none ((outN ot 0).map byteV) (outN ot 0).length := ⟨rfl, rfl⟩
    have h2 : ∀ i, (none : Option Nat) = some i → m.next ≤ i := fun i hi => by cases hi
    have h3 : TgV (fun i => V i ∨ (none : Option Nat) = some i) m it (st 0) := by
      rw [hs0]
      exact ⟨ol0, or0, hT1.weak fun i hi => by
        rcases hi with hi | hi
        · exact hi
        · cases hi⟩
    exact ⟨0, none, by omega, Keeps.refl V m, h1, h2, h3, by simp [frA_at], by simp [slV, outN], by simp, by simp, by simp⟩
  · rintro k ts m1 K ⟨j, ob, hj, k1, hob, hobn, hT2, t0, t5, t21, t22, t23⟩ hK
    by_cases hjl : j < b.length
    · have hj8 : (j : Int) < (b.length : Nat) := by omega
      have hv1 : SlR m1 1 v (b.map byteV) b.length := hv.keep fun i hi => k1.2 i (hT1.vl i (hvb i hi)) (hvb i hi)
      obtain ⟨i, o, L, e1, e2, e3, e4, e5⟩ := hv1.at hjl
      have hc : L[o + j * 1]? = some (.int .u8 ((b[j]).toNat : Int)) := by
        have := e5 0 (by omega)
        simpa [hjl, byteV] using this
      have hidx : sidx 1 v (.int .i64 (j : Int)) = some (.pointer (some ⟨i, o + j * 1, none⟩)) := by rw [e1]; exact sidx_at hjl
      have w1 : IntKind.i64.wrap ((j : Int) + 1) = (j : Int) + 1 := w64 (by omega)
      rw [Nat.mul_one] at hc hidx
      obtain ⟨hlt, hc'⟩ := List.getElem?_eq_some_iff.1 hc
      obtain ⟨ol, orr, hT3⟩ := hT2
      have hg3 := hT3.g
      have hput := hok j hjl
      generalize hsj : st j = sj at *
      obtain ⟨sp3, mem3, tr3, wt3, asl3, line3, addr3, reps3⟩ := sj
      simp only [tgC] at hg3
      simp -implicitDefEqProofs (disch := first | assumption | (simp only [wnA]; done) | (simp only [wnA]; omega) | omega | fail) [rc12_1, rc12_0, wkA, retV, stabOk, dC, ev, fillD, pickCells, putAt, bnd, slD, List.getElem?_cons_zero, List.getElem?_cons_succ, dR.eq_20, Mem.cell, Mem.row, wmA, t0, t5, t21, t22, t23, hj8, hidx, e2, hc, hc', hg3]
      refine hput w0 (fun i => V i ∨ ob = some i) m1 _ ht (fun i hi => .inl (hV i hi)) (hp.keepV k1 hV) ⟨ol, orr, hT3⟩ fun u m2 hT4 k2 hu hub => ?_
      have hol1 := hol (j + 1) (by omega)
      have hob2 : SlO m2 5 1 ob ((outN ot j).map byteV) (outN ot j).length := hob.keep k2.1 fun i hi => k2.2 i (by have := hob; rw [hi] at this; exact this.lt) (.inr hi)
      simp only [outN, List.length_append] at hol1
      simp -implicitDefEqProofs (disch := first | assumption | (simp only [wnA]; done) | (simp only [wnA]; omega) | omega | fail) [wkA, retV, stabOk, dC, ev, fillD, pickCells, putAt, bnd, slD, List.getElem?_cons_zero, List.getElem?_cons_succ, dR.eq_20, Mem.cell, Mem.row, wmA, t5, t23]
      refine SK_appK (ob := ob) (k := (ot j).length) (ys := (ot j).map byteV) hob2 (by simp [wkA, retV, stabOk, dC, ev, fillD, pickCells, putAt, bnd, slD, List.getElem?_cons_zero, List.getElem?_cons_succ, dR.eq_20, t5]) (by simp [wkA, retV, stabOk, dC, ev, fillD, pickCells, putAt, bnd, slD, List.getElem?_cons_zero, List.getElem?_cons_succ, dR.eq_20]; exact hu.elems) (by simp [wkA, retV, stabOk, dC, ev, fillD, pickCells, putAt, bnd, slD, List.getElem?_cons_zero, List.getElem?_cons_succ, dR.eq_20]; exact hu.lenV) (byteV_oneC _) (by omega) (by unfold maxLen; omega) (by simp) fun ob' m3 hob3 hn3 hk3 hob3n => ?_
      simp -implicitDefEqProofs (disch := first | assumption | (simp only [wnA]; done) | (simp only [wnA]; omega) | omega | fail) [wkA, retV, stabOk, dC, ev, fillD, pickCells, putAt, bnd, slD, List.getElem?_cons_zero, List.getElem?_cons_succ, dR.eq_20, Mem.cell, Mem.row, wmA, t23, w1]
      have k2V : Keeps V m1 m2 := k2.mono fun i _ hi => .inl hi
      have hobV : ∀ i, ob = some i → ¬ V i := fun i hi hv => by have := hobn i hi; have := hT1.vl i hv; omega
      have k3 : Keeps V m2 m3 := ⟨hn3, fun i hi hv => hk3 i hi fun e => hobV i e hv⟩
      have kk := (k1.trans k2V).trans k3
      refine hK (k - 1) _ _ (by omega) ⟨j + 1, ob', by omega, kk, ?_, ?_, ?_, ?_, ?_, ?_, ?_, ?_⟩
      · simpa [outN] using hob3
      · intro i hi
        rcases hob3n i hi with h | h
        · exact hobn i h
        · exact Nat.le_trans k1.1 (Nat.le_trans k2.1 h)
      · obtain ⟨ol4, or4, hT5⟩ := hT4
        have hob' : ∀ i, ob' = some i → ol4 ≠ some i ∧ or4 ≠ some i ∧ i ≠ it ∧ i ≠ (st (j + 1)).sp ∧ i < m3.next := fun i hi => by
          rcases hob3n i hi with h | h
          · exact ⟨fun e => hT5.lv i e (.inr h), fun e => hT5.rv i e (.inr h), fun e => hT5.nv (by rw [← e]; exact .inr h), fun e => hT5.sv (by rw [← e]; exact .inr h), by rw [hi] at hob3; exact hob3.lt⟩
          · have a1 := hT5.lt
            have a2 := hT5.sl
            refine ⟨fun e => ?_, fun e => ?_, by omega, by omega, by rw [hi] at hob3; exact hob3.lt⟩
            · have := hT5.ln; rw [e] at this; have := this.lt; omega
            · have := hT5.rn; rw [e] at this; have := this.lt; omega
        have hT6 : TgO V m3 it (st (j + 1)) ol4 or4 := (hT5.far hn3 fun i hi hni => hk3 i hi fun e => hni (.inr e)).weak fun i hi => .inl hi
        exact ⟨ol4, or4, {
          g := hT6.g
          lt := hT6.lt
          nv := fun h => h.elim hT6.nv fun h => (hob' it h).2.2.1 rfl
          ln := hT6.ln
          lv := fun i hi h => h.elim (hT6.lv i hi) fun h => (hob' i h).1 hi
          rn := hT6.rn
          rv := fun i hi h => h.elim (hT6.rv i hi) fun h => (hob' i h).2.1 hi
          sg := hT6.sg
          sl := hT6.sl
          sv := fun h => h.elim hT6.sv fun h => (hob' _ h).2.2.2.1 rfl
          ll := hT6.ll
          vl := fun i h => h.elim (hT6.vl i) fun h => (hob' i h).2.2.2.2 }⟩
      · first | exact t0 | simp [t0]
      · simp [outN]
      · first | exact t21 | simp [t21]
      · first | exact t22 | simp [t22]
      · first | rfl | simp
    · have hjj : j = b.length := by omega
      subst hjj
      have hj8 : ¬ ((b.length : Nat) : Int) < (b.length : Nat) := by omega
      simp -implicitDefEqProofs (disch := first | assumption | (simp only [wnA]; done) | (simp only [wnA]; omega) | omega | fail) [rc12_1, rc12_2, wkA, retV, stabOk, dC, ev, fillD, pickCells, putAt, bnd, slD, List.getElem?_cons_zero, List.getElem?_cons_succ, dR.eq_20, Mem.cell, Mem.row, wmA, t5, t22, t23, hj8]
      obtain ⟨ol, orr, hT3⟩ := hT2
      exact hq _ _ ⟨ol, orr, hT3.weak fun i hi => .inl hi⟩ k1 hob.read fun i hi => hobn i (by rw [blk_slV] at hi; exact hi)
theorem c_tTick {w0 : World} {V : Nat → Prop} {m : Mem} {it : Nat} {s : Tg} {Q : Value → Mem → Prop} (hT : TgV V m it s) (hq : Q (.slice none 0 0) m) : AbC Tryz.prog w0 22 [.pointer (some ⟨it, 0, none⟩)] m Q := by
  refine AbC_fn ok22 (by simp) ?_
  obtain ⟨ol, orr, hT⟩ := hT
  have hg := hT.g
  simp only [tgC] at hg
  simp -implicitDefEqProofs (disch := first | assumption | (simp only [wnA]; done) | (simp only [wnA]; omega) | omega | fail) [rc22, ro22, wkA, retV, stabOk, dC, ev, fillD, pickCells, putAt, bnd, slD, List.getElem?_cons_zero, List.getElem?_cons_succ, dR.eq_20, Mem.cell, Mem.row, wmA, hg]
  exact hq
theorem c_tLoads {w0 : World} {V : Nat → Prop} {m : Mem} {it : Nat} {s : Tg} {Q : Value → Mem → Prop} (hT : TgV V m it s) (hq : Q (.bool false) m) : AbC Tryz.prog w0 19 [.pointer (some ⟨it, 0, none⟩)] m Q := by
  refine AbC_fn ok19 (by simp) ?_
  obtain ⟨ol, orr, hT⟩ := hT
  have hg := hT.g
  simp only [tgC] at hg
  simp -implicitDefEqProofs (disch := first | assumption | (simp only [wnA]; done) | (simp only [wnA]; omega) | omega | fail) [rc19, ro19, wkA, retV, stabOk, dC, ev, fillD, pickCells, putAt, bnd, slD, List.getElem?_cons_zero, List.getElem?_cons_succ, dR.eq_20, Mem.cell, Mem.row, wmA, hg]
  exact hq
theorem rep_one : ∀ (l : List (Int × Int × Nat)), (l.flatMap repC).all oneC = true
  | [] => rfl
  | r :: l => by rw [List.flatMap_cons, List.all_append, rep_one l]; rfl
theorem c_tReplies {w0 : World} {V : Nat → Prop} {m : Mem} {it : Nat} {s : Tg} {Q : Value → Mem → Prop} (hT : TgV V m it s) (hr : s.reps.length ≤ 1000000)
    (hq : ∀ ob m', SlO m' 44 3 ob (s.reps.flatMap repC) s.reps.length → Old m m' → (∀ b, ob = some b → m.next ≤ b) → Q (slV ob s.reps.length 3) m') : AbC Tryz.prog w0 15 [.pointer (some ⟨it, 0, none⟩)] m Q := by
  refine AbC_fn ok15 (by simp) ?_
  obtain ⟨ol, orr, hT⟩ := hT
  have hg := hT.g
  have hrn := hT.rn
  obtain ⟨sp, mem, tr, wt, asl, line, addr, reps⟩ := s
  simp only [tgC] at hg hrn hr hq
  simp -implicitDefEqProofs (disch := first | assumption | (simp only [wnA]; done) | (simp only [wnA]; omega) | omega | fail) [rc15, ro15, wkA, retV, stabOk, dC, ev, fillD, pickCells, putAt, bnd, slD, List.getElem?_cons_zero, List.getElem?_cons_succ, dR.eq_20, Mem.cell, Mem.row, wmA, hg]
  refine SK_app_new (k := reps.length) (ys := reps.flatMap repC) (by simp [wkA, retV, stabOk, dC, ev, fillD, pickCells, putAt, bnd, slD, List.getElem?_cons_zero, List.getElem?_cons_succ, dR.eq_20]) (by simp [wkA, retV, stabOk, dC, ev, fillD, pickCells, putAt, bnd, slD, List.getElem?_cons_zero, List.getElem?_cons_succ, dR.eq_20]; exact hrn.elems) (by simp [wkA, retV, stabOk, dC, ev, fillD, pickCells, putAt, bnd, slD, List.getElem?_cons_zero, List.getElem?_cons_succ, dR.eq_20]; exact hrn.lenV) (rep_one reps) (by omega) (by unfold maxLen; omega) (flat_len repC_len reps) fun ob m' h1 h2 h3 h4 => ?_
  simp -implicitDefEqProofs (disch := first | assumption | (simp only [wnA]; done) | (simp only [wnA]; omega) | omega | fail) [wkA, retV, stabOk, dC, ev, fillD, pickCells, putAt, bnd, slD, List.getElem?_cons_zero, List.getElem?_cons_succ, dR.eq_20, Mem.cell, Mem.row, wmA]
  exact hq ob m' h1 ⟨h2, h4⟩ h3
/-- A board that begins. -/
noncomputable def tg0 (sp : Nat) (tr wt : Int) : Tg := ⟨sp, zst, tr, wt, true, [], 0, []⟩
theorem c_tOf {w0 : World} {m : Mem} {tr wt : Int} {Q : Value → Mem → Prop}
    (hq : ∀ it sp m', m.next ≤ it → m.next ≤ sp → Old m m' → TgV (fun i => i < m.next) m' it (tg0 sp tr wt) → Q (.pointer (some ⟨it, 0, none⟩)) m') : AbC Tryz.prog w0 10 [.agg ⟨[.int .i64 tr, .int .i64 wt]⟩] m Q := by
  refine AbC_fn ok10 (by simp) ?_
  have hz : ∀ ts : Fr, dR ts (m.push (.own [.int .i64 tr, .int .i64 wt] 28)) (.bld zst []) = some (.agg ⟨zst⟩) := fun ts => by simp [dR, fillD]
  simp -implicitDefEqProofs (disch := first | assumption | (simp only [wnA]; done) | (simp only [wnA]; omega) | omega | fail) [rc10, ro10, wkA, retV, stabOk, dC, ev, fillD, pickCells, putAt, bnd, slD, List.getElem?_cons_zero, List.getElem?_cons_succ, dR.eq_20, Mem.cell, Mem.row, wmA, hz]
  refine hq (m.next + 2) (m.next + 1) _ (by omega) (by omega) ((((Old.refl m).push _).push _).push _) ⟨none, none, ?_⟩
  exact {
    g := by rw [Mem.push_at _ _ (by simp)]; simp [tgC, tg0, slV]
    lt := by simp
    nv := by omega
    ln := ⟨rfl, rfl⟩
    lv := fun b hb => by cases hb
    rn := ⟨rfl, rfl⟩
    rv := fun b hb => by cases hb
    sg := by rw [Mem.push_old _ _ (by simp [tg0]), Mem.push_at _ _ (by simp [tg0])]; rfl
    sl := by simp [tg0]
    sv := by simp [tg0]
    ll := by simp [tg0]
    vl := fun i hi => by simp; omega }
end Go.Proofs.YtiapjjgmmiifmaaGreatDoor.Ab

set_option linter.unusedVariables false
set_option linter.unusedSimpArgs false
namespace Go.Proofs.YtiapjjgmmiifmaaGreatDoor.Ab
open Go Go.RowKit
set_option maxHeartbeats 4000000
set_option maxRecDepth 100000
theorem fold_push : ∀ (l a : List UInt8), a.length ≤ 80 → l.foldl pushL a = (a ++ l).take 80
  | [], a, h => by simp [List.take_of_length_le h]
  | c :: l, a, h => by
    rw [List.foldl_cons]
    by_cases h2 : a.length < 80
    · have e : pushL a c = a ++ [c] := by unfold pushL; rw [if_pos h2]
      rw [e, fold_push l (a ++ [c]) (by simp; omega)]
      simp
    · have e : pushL a c = a := by unfold pushL; rw [if_neg h2]
      rw [e, fold_push l a h, List.take_append_of_le_length (by omega), List.take_append_of_le_length (by omega)]
theorem take_pushL {b : List UInt8} {j : Nat} (hj : j < b.length) : (b.take (j + 1)).foldl pushL [] = pushL ((b.take j).foldl pushL []) b[j] := by
  rw [List.take_add_one, List.getElem?_eq_getElem hj, List.foldl_append]; rfl
/-- The states of a board while a line comes. -/
def lineSt (s : Tg) (l : List UInt8) (j : Nat) : Tg := { s with line := if j ≤ l.length then (l.take j).foldl pushL [] else [] }
def lineOt (l o : List UInt8) (j : Nat) : List UInt8 := if j < l.length then [] else o
theorem outN_line (l o : List UInt8) : ∀ j, outN (lineOt l o) j = if j ≤ l.length then [] else (outN (lineOt l o) j) := fun j => by
  induction j with
  | zero => simp [outN]
  | succ j ih =>
    split
    · rename_i h
      have : outN (lineOt l o) j = [] := by rw [ih, if_pos (by omega)]
      simp only [outN, this, lineOt]
      rw [if_pos (by omega)]
      rfl
    · rfl
theorem outN_end (l o : List UInt8) : outN (lineOt l o) (l.length + 1) = o := by
  have h := outN_line l o l.length
  rw [if_pos (Nat.le_refl _)] at h
  simp only [outN, h, lineOt]
  rw [if_neg (by omega)]
  rfl
/-- A line that comes in one go. -/
theorem c_tLine {w0 : World} {V : Nat → Prop} {m : Mem} {it : Nat} {s : Tg} {l o : List UInt8} {v : Value} {Q : Value → Mem → Prop} (ht : Ten w0) (hV : ∀ i, i < L0.n → V i) (hp : Part L0 m) (hs : s.asleep = false) (hsl : s.line = []) (hT : TgV V m it s)
    (hv : SlR m 1 v ((l ++ [13]).map byteV) (l.length + 1)) (hvb : ∀ i, blk v = some i → V i) (hbl : l.length ≤ 9223372036854775800) (hol : o.length ≤ 140737488355328) (hl : ∀ c ∈ l, c ≠ 13) {s' : Tg} (hd : ∀ s1 : Tg, s1 = { s with line := [] } → DoesOk it s1 (l.take 80) o s')
    (hq : ∀ u m', TgV V m' it s' → Keeps V m m' → SlR m' 1 u (o.map byteV) o.length → (∀ i, blk u = some i → m.next ≤ i) → Q u m') :
    AbC Tryz.prog w0 12 [.pointer (some ⟨it, 0, none⟩), v] m Q := by
  have e0 : (l ++ [13]).length = l.length + 1 := by simp
  have hst0 : lineSt s l 0 = s := by
    obtain ⟨sp, mem, tr, wt, asl, line, addr, reps⟩ := s
    simp only at hsl
    simp [lineSt, hsl]
  refine c_tPut (b := l ++ [13]) (st := fun j => if j ≤ l.length then lineSt s l j else s') (ot := lineOt l o) ht hV hp (by rw [if_pos (Nat.zero_le _), hst0]; exact hT) (by rw [e0]; exact hv) hvb (by rw [e0]; omega) (fun j hj => ?_) (fun j hj => ?_) fun u m' h1 h2 h3 h4 => ?_
  · rw [e0] at hj
    by_cases hjl : j ≤ l.length
    · rw [outN_line, if_pos hjl]; simp
    · have : j = l.length + 1 := by omega
      rw [this, outN_end]; exact hol
  · rw [e0] at hj
    rw [if_pos (show j ≤ l.length by omega)]
    by_cases hjl : j < l.length
    · rw [if_pos (show j + 1 ≤ l.length by omega)]
      have hc : (l ++ [13])[j] = l[j] := List.getElem_append_left hjl
      rw [hc]
      have ho : lineOt l o j = [] := by unfold lineOt; rw [if_pos hjl]
      rw [ho]
      have e2 : lineSt s l (j + 1) = { lineSt s l j with line := pushL (lineSt s l j).line l[j] } := by
        simp only [lineSt]
        rw [if_pos (show j + 1 ≤ l.length by omega), if_pos (show j ≤ l.length by omega), take_pushL hjl]
      rw [e2]
      exact put_char (by simp [lineSt, hs]) (hl _ (List.getElem_mem hjl))
    · have hje : j = l.length := by omega
      subst hje
      rw [if_neg (by omega)]
      have hc : (l ++ [13])[l.length] = 13 := by simp
      rw [hc]
      have ho : lineOt l o l.length = o := by unfold lineOt; rw [if_neg (by omega)]
      rw [ho]
      refine put_cr (by simp [lineSt, hs]) ?_ hol
      have e3 : (lineSt s l l.length).line = l.take 80 := by
        simp only [lineSt]
        rw [if_pos (Nat.le_refl _), List.take_length, fold_push l [] (by simp)]
        rfl
      rw [e3]
      exact hd _ (by simp [lineSt])
  · rw [e0, if_neg (by omega)] at h1
    rw [e0, outN_end] at h3
    exact hq u m' h1 h2 h3 h4
end Go.Proofs.YtiapjjgmmiifmaaGreatDoor.Ab

set_option linter.unusedVariables false
set_option linter.unusedSimpArgs false
namespace Go.Proofs.YtiapjjgmmiifmaaGreatDoor.Ab
open Go Go.RowKit
set_option maxHeartbeats 4000000
set_option maxRecDepth 100000
theorem TgV.far {V : Nat → Prop} {m m' : Mem} {it : Nat} {s : Tg} (h : TgV V m it s) (hn : m.next ≤ m'.next) (hk : ∀ i, i < m.next → ¬ V i → m'.get i = m.get i) : TgV V m' it s := by
  obtain ⟨ol, orr, h⟩ := h
  exact ⟨ol, orr, h.far hn hk⟩
theorem TgV.old {V : Nat → Prop} {m m' : Mem} {it : Nat} {s : Tg} (h : TgV V m it s) (o : Old m m') : TgV V m' it s := h.far o.1 fun i hi _ => o.2 i hi
theorem TgV.weak {V W : Nat → Prop} {m : Mem} {it : Nat} {s : Tg} (h : TgV V m it s) (hw : ∀ i, W i → V i) : TgV W m it s := by
  obtain ⟨ol, orr, h⟩ := h
  exact ⟨ol, orr, h.weak hw⟩
/-- What is new is another's. -/
theorem TgV.pushV {V : Nat → Prop} {m : Mem} {it : Nat} {s : Tg} (h : TgV V m it s) (e : Ent) : TgV (fun i => V i ∨ i = m.next) (m.push e) it s := by
  obtain ⟨ol, orr, h⟩ := h
  have h2 : TgO V (m.push e) it s ol orr := h.far (by simp) fun i hi _ => Mem.push_old _ _ hi
  have hol : ∀ b, ol = some b → b ≠ m.next := fun b hb e => by have := h.ln; rw [hb] at this; have := this.lt; omega
  have hor : ∀ b, orr = some b → b ≠ m.next := fun b hb e => by have := h.rn; rw [hb] at this; have := this.lt; omega
  exact ⟨ol, orr, {
    g := h2.g
    lt := h2.lt
    nv := fun x => x.elim h.nv fun e => by have := h.lt; omega
    ln := h2.ln
    lv := fun b hb x => x.elim (h.lv b hb) (hol b hb)
    rn := h2.rn
    rv := fun b hb x => x.elim (h.rv b hb) (hor b hb)
    sg := h2.sg
    sl := h2.sl
    sv := fun x => x.elim h.sv fun e => by have := h.sl; omega
    ll := h2.ll
    vl := fun i x => x.elim (h2.vl i) fun e => by simp; omega }⟩
theorem own1 (m : Mem) (l : List UInt8) : SlR (m.push (.own (l.map byteV) 5)) 1 (.slice (some ⟨m.next, 0, none⟩) l.length 1) (l.map byteV) l.length :=
  ⟨by simp, .inr ⟨m.next, 0, l.map byteV, rfl, by rw [Mem.push_at _ _ rfl]; rfl, by simp, by rw [Nat.mul_one, List.drop_zero, List.take_of_length_le (by simp)]⟩⟩
/-- What of bytes is no end of a line. -/
def noCr (l : List UInt8) : List UInt8 := l.filter fun c => c != 13
theorem noCr_take {l : List UInt8} {j : Nat} (hj : j < l.length) : noCr (l.take (j + 1)) = if l[j] = 13 then noCr (l.take j) else noCr (l.take j) ++ [l[j]] := by
  unfold noCr
  rw [List.take_add_one, List.getElem?_eq_getElem hj, List.filter_append]
  by_cases h : l[j] = 13
  · simp [h]
  · simp [h]
theorem noCr_len (l : List UInt8) : (noCr l).length ≤ l.length := List.length_filter_le _ _
theorem l_Asleep {w0 : World} {m : Mem} {tr wt : Int} {k : Nat} {x : UInt8} {v : Value} {raw : List UInt8} (hk : k ≤ 255) (hp : Part L0 m) (ht : Ten w0) (hv : SlR m 1 v (raw.map byteV) raw.length) (hvb : ∀ b, blk v = some b → b < m.next) (hl : raw.length ≤ 2000000) :
    AbC Tryz.prog w0 6 [.agg ⟨[.int .i64 tr, .int .i64 wt]⟩, .int .u8 (k : Int), .int .u8 (x.toNat : Int), v] m fun v _ => v = .bool true := by
  refine AbC_fn ok6 (by simp) ?_
  simp -implicitDefEqProofs (disch := first | assumption | (simp only [wnA]; done) | (simp only [wnA]; omega) | omega | fail) [rc6, ro6, wkA, retV, stabOk, dC, ev, fillD, pickCells, putAt, bnd, slD, List.getElem?_cons_zero, List.getElem?_cons_succ, dR.eq_20, Mem.cell, Mem.row, wmA]
  have o0 : Old m (m.push (.own [.int .i64 tr, .int .i64 wt] 28)) := (Old.refl m).push _
  have hp0 := Old.part hp o0
  have hv0 : SlR (m.push (.own [.int .i64 tr, .int .i64 wt] 28)) 1 v (raw.map byteV) raw.length := hv.keep fun b hb => o0.2 b (hvb b hb)
  have hc0 : (m.push (.own [.int .i64 tr, .int .i64 wt] 28)).get m.next = .own [.int .i64 tr, .int .i64 wt] 28 := by simp
  have hn0 : m.next < (m.push (.own [.int .i64 tr, .int .i64 wt] 28)).next := by simp
  have hvb0 : ∀ b, blk v = some b → b < (m.push (.own [.int .i64 tr, .int .i64 wt] 28)).next := fun b hb => Nat.lt_trans (hvb b hb) hn0
  generalize m.push (.own [.int .i64 tr, .int .i64 wt] 28) = m0 at *
  refine c_awake hp0 ?_
  simp -implicitDefEqProofs (disch := first | assumption | (simp only [wnA]; done) | (simp only [wnA]; omega) | omega | fail) [wkA, retV, stabOk, dC, ev, fillD, pickCells, putAt, bnd, slD, List.getElem?_cons_zero, List.getElem?_cons_succ, dR.eq_20, Mem.cell, Mem.row, wmA, rc6_7, hc0]
  refine c_tOf fun it sp m1 i1 i2 o1 hT => ?_
  have hp1 := Old.part hp0 o1
  simp -implicitDefEqProofs (disch := first | assumption | (simp only [wnA]; done) | (simp only [wnA]; omega) | omega | fail) [wkA, retV, stabOk, dC, ev, fillD, pickCells, putAt, bnd, slD, List.getElem?_cons_zero, List.getElem?_cons_succ, dR.eq_20, Mem.cell, Mem.row, wmA]
  have hV : ∀ i, i < L0.n → i < m0.next := fun i hi => Nat.lt_of_lt_of_le hi hp0.1
  have hr : dBin .rem (.int .u8 (k : Int)) (.int .u8 20) = some (.int .u8 ((k % 20 : Nat) : Int)) := by
    rw [dBin_rem (by omega), Int.tmod_eq_emod_of_nonneg (by omega)]; rfl
  have w20 : IntKind.i64.wrap ((k % 20 : Nat) : Int) = ((k % 20 : Nat) : Int) := w64 (by omega)
  have hk20 : k % 20 < 20 := Nat.mod_lt _ (by omega)
  generalize k % 20 = n at *
  refine LoopW_of (fun q ts m' => ∃ j, j + q = n ∧ Keeps (fun i => i < m0.next) m1 m' ∧ TgV (fun i => i < m0.next) m' it (tg0 sp tr wt) ∧ ts 1 = .int .u8 (k : Int) ∧ ts 2 = .int .u8 (x.toNat : Int) ∧ ts 3 = v ∧ ts 9 = .pointer (some ⟨it, 0, none⟩) ∧ ts 10 = .int .i64 (j : Nat)) n ?_ ?_
  · exact ⟨0, by omega, Keeps.refl _ _, hT, by simp [frA_at], by simp [frA_at], by simp [frA_at], by simp, by simp⟩
  rintro q ts m2 K ⟨j, hj, o2, hT2, t1, t2, t3, t9, t10⟩ hK
  have hp2 := hp1.keepV o2 hV
  by_cases hjn : j < n
  · have hjn' : (j : Int) < (n : Int) := by omega
    have w1 : IntKind.i64.wrap ((j : Int) + 1) = (j : Int) + 1 := w64 (by omega)
    simp -implicitDefEqProofs (disch := first | assumption | (simp only [wnA]; done) | (simp only [wnA]; omega) | omega | fail) [rc6_1, rc6_0, wkA, retV, stabOk, dC, ev, fillD, pickCells, putAt, bnd, slD, List.getElem?_cons_zero, List.getElem?_cons_succ, dR.eq_20, Mem.cell, Mem.row, wmA, t1, t9, t10, hr, w20, hjn']
    refine c_tTick hT2 ?_
    simp -implicitDefEqProofs (disch := first | assumption | (simp only [wnA]; done) | (simp only [wnA]; omega) | omega | fail) [wkA, retV, stabOk, dC, ev, fillD, pickCells, putAt, bnd, slD, List.getElem?_cons_zero, List.getElem?_cons_succ, dR.eq_20, Mem.cell, Mem.row, wmA, t9]
    refine c_tPut (b := []) (st := fun _ => tg0 sp tr wt) (ot := fun _ => []) ht hV hp2 hT2 ⟨rfl, .inl ⟨rfl, .inl rfl⟩⟩ (fun i hi => by cases hi) (by simp) (fun j hj => by simp at hj; subst hj; simp [outN]) (fun j hj => by simp at hj) fun u m3 hT3 k3 hu hub => ?_
    have hu0 : slen u = some (.int .i64 ((0 : Nat) : Int)) := hu.slen
    simp -implicitDefEqProofs (disch := first | assumption | (simp only [wnA]; done) | (simp only [wnA]; omega) | omega | fail) [wkA, retV, stabOk, dC, ev, fillD, pickCells, putAt, bnd, slD, List.getElem?_cons_zero, List.getElem?_cons_succ, dR.eq_20, Mem.cell, Mem.row, wmA, hu0, t9]
    refine c_tLoads hT3 ?_
    simp -implicitDefEqProofs (disch := first | assumption | (simp only [wnA]; done) | (simp only [wnA]; omega) | omega | fail) [wkA, retV, stabOk, dC, ev, fillD, pickCells, putAt, bnd, slD, List.getElem?_cons_zero, List.getElem?_cons_succ, dR.eq_20, Mem.cell, Mem.row, wmA, t10, w1]
    exact hK (q - 1) _ _ (by omega) ⟨j + 1, by omega, o2.trans k3, hT3, by first | exact t1 | simp [t1], by first | exact t2 | simp [t2], by first | exact t3 | simp [t3], by first | exact t9 | simp [t9], by first | rfl | simp⟩
  · have hjj : j = n := by omega
    subst hjj
    have hjn' : ¬ (j : Int) < (j : Int) := by omega
    simp -implicitDefEqProofs (disch := first | assumption | (simp only [wnA]; done) | (simp only [wnA]; omega) | omega | fail) [rc6_1, rc6_6, wkA, retV, stabOk, dC, ev, fillD, pickCells, putAt, bnd, slD, List.getElem?_cons_zero, List.getElem?_cons_succ, dR.eq_20, Mem.cell, Mem.row, wmA, t1, t2, t9, t10, hr, w20, hjn']
    rw [SK_bsl (cs := [byteV x]) (by simp [fillD, pickCells, wkA, retV, stabOk, dC, ev, fillD, pickCells, putAt, bnd, slD, List.getElem?_cons_zero, List.getElem?_cons_succ, dR.eq_20, byteV, t2]) rfl]
    simp -implicitDefEqProofs (disch := first | assumption | (simp only [wnA]; done) | (simp only [wnA]; omega) | omega | fail) [wkA, retV, stabOk, dC, ev, fillD, pickCells, putAt, bnd, slD, List.getElem?_cons_zero, List.getElem?_cons_succ, dR.eq_20, Mem.cell, Mem.row, wmA, t2, t9]
    have hV2 : ∀ i, i < L0.n → (fun i => i < m0.next ∨ i = m2.next) i := fun i hi => .inl (hV i hi)
    have oo2 : Old m2 (m2.push (.own [byteV x] 5)) := (Old.refl _).push _
    refine c_tPut (b := [x]) (st := fun j => if j = 0 then tg0 sp tr wt else { tg0 sp tr wt with asleep := false }) (ot := fun _ => promptL) ht hV2 (Old.part hp2 oo2) (hT2.pushV _) (own1 m2 [x]) (fun i hi => by cases hi; exact .inr rfl) (by simp) (fun j hj => ?_) (fun j hj => ?_) fun u m3 hT3 k3 hu hub => ?_
    · have : j = 0 ∨ j = 1 := by simp at hj; omega
      rcases this with rfl | rfl <;> simp [outN, promptL]
    · have : j = 0 := by simp at hj; omega
      subst this
      exact put_wake rfl
    have hub1 := hu.bstr
    have hT3 : TgV (fun i => i < m0.next) m3 it { tg0 sp tr wt with asleep := false } := hT3.weak fun i hi => .inl hi
    have kk3 : Keeps (fun i => i < m0.next) m1 m3 := (o2.trans oo2.keeps).trans (k3.mono fun i _ hi => .inl hi)
    have hp3 := hp1.keepV kk3 hV
    have hpr : outN (fun _ => promptL) [x].length = promptL := rfl
    rw [hpr] at hub1
    have ecmp : (promptL == ([13, 10, 61, 62, 32] : List UInt8)) = true := rfl
    simp -implicitDefEqProofs (disch := first | assumption | (simp only [wnA]; done) | (simp only [wnA]; omega) | omega | fail) [wkA, retV, stabOk, dC, ev, fillD, pickCells, putAt, bnd, slD, List.getElem?_cons_zero, List.getElem?_cons_succ, dR.eq_20, Mem.cell, Mem.row, wmA, hub1, ecmp, t9]
    refine c_tLoads hT3 ?_
    simp -implicitDefEqProofs (disch := first | assumption | (simp only [wnA]; done) | (simp only [wnA]; omega) | omega | fail) [wkA, retV, stabOk, dC, ev, fillD, pickCells, putAt, bnd, slD, List.getElem?_cons_zero, List.getElem?_cons_succ, dR.eq_20, Mem.cell, Mem.row, wmA, rc6_5, t3, hv0.slen]
    have hm0 : m0.next ≤ m1.next := o1.1
    have hvm : ∀ m', Keeps (fun i => i < m0.next) m1 m' → SlR m' 1 v (raw.map byteV) raw.length := fun m' k => hv0.keep fun b hb => by
      have hb0 := hvb0 b hb
      rw [k.2 b (Nat.lt_of_lt_of_le hb0 hm0) hb0, o1.2 b hb0]
    refine LoopW_of (fun q ts m' => ∃ j, j + q = raw.length ∧ Keeps (fun i => i < m0.next) m1 m' ∧ TgV (fun i => i < m0.next) m' it { tg0 sp tr wt with asleep := false } ∧ ts 9 = .pointer (some ⟨it, 0, none⟩) ∧ ts 11 = .string ⟨⟨63 :: noCr (raw.take j)⟩⟩ ∧ ts 50 = v ∧ ts 51 = .int .i64 (raw.length : Nat) ∧ ts 52 = .int .i64 (j : Nat)) raw.length ?_ ?_
    · exact ⟨0, by omega, kk3, hT3, by first | exact t9 | simp [t9], by simp [noCr], by first | exact t3 | simp [t3], by simp, by simp⟩
    rintro q ts2 m4 K2 ⟨i, hi, k4, hT4, u9, u11, u50, u51, u52⟩ hK2
    by_cases hil : i < raw.length
    · have hil' : (i : Int) < (raw.length : Nat) := by omega
      obtain ⟨bi, bo, L, e1, e2, e3, e4, e5⟩ := (hvm m4 k4).at hil
      have hc : L[bo + i * 1]? = some (.int .u8 ((raw[i]).toNat : Int)) := by
        have := e5 0 (by omega)
        simpa [hil, byteV] using this
      have hidx : sidx 1 v (.int .i64 (i : Int)) = some (.pointer (some ⟨bi, bo + i * 1, none⟩)) := by rw [e1]; exact sidx_at hil
      rw [Nat.mul_one] at hc hidx
      obtain ⟨hlt, hc'⟩ := List.getElem?_eq_some_iff.1 hc
      have w1 : IntKind.i64.wrap ((i : Int) + 1) = (i : Int) + 1 := w64 (by omega)
      have htk := noCr_take hil
      have hnl := noCr_len (raw.take i)
      rw [List.length_take] at hnl
      generalize hcc : raw[i] = c at *
      by_cases h13 : c = 13
      · subst h13
        rw [if_pos rfl] at htk
        have e13 : (((13 : UInt8).toNat : Int) != 13) = false := rfl
        simp -implicitDefEqProofs (disch := first | assumption | (simp only [wnA]; done) | (simp only [wnA]; omega) | omega | fail) [rc6_3, rc6_2, wkA, retV, stabOk, dC, ev, fillD, pickCells, putAt, bnd, slD, List.getElem?_cons_zero, List.getElem?_cons_succ, dR.eq_20, Mem.cell, Mem.row, wmA, u9, u11, u50, u51, u52, hil', hidx, e2, hc, hc', e13, w1]
        exact hK2 (q - 1) _ _ (by omega) ⟨i + 1, by omega, k4, hT4, by first | exact u9 | simp [u9], by rw [htk]; first | exact u11 | simp [u11], by first | exact u50 | simp [u50], by first | exact u51 | simp [u51], by first | rfl | simp⟩
      · rw [if_neg h13] at htk
        have e13 : ((c.toNat : Int) != 13) = true := by
          simp only [bne_iff_ne]
          intro e
          exact h13 (UInt8.toNat_inj.1 (by show c.toNat = 13; omega))
        simp -implicitDefEqProofs (disch := first | assumption | (simp only [wnA]; done) | (simp only [wnA]; omega) | omega | fail) [rc6_3, rc6_2, wkA, retV, stabOk, dC, ev, fillD, pickCells, putAt, bnd, slD, List.getElem?_cons_zero, List.getElem?_cons_succ, dR.eq_20, Mem.cell, Mem.row, wmA, u9, u11, u50, u51, u52, hil', hidx, e2, hc, hc', e13, w1]
        rw [SK_bsl (cs := [byteV c]) (by simp [fillD, pickCells, wkA, retV, stabOk, dC, ev, fillD, pickCells, putAt, bnd, slD, List.getElem?_cons_zero, List.getElem?_cons_succ, dR.eq_20, byteV, hc']) rfl]
        have hbs : bstr (m4.push (.own [byteV c] 5)) (.slice (some ⟨m4.next, 0, none⟩) 1 1) = some (.string ⟨⟨[c]⟩⟩) := (own1 m4 [c]).bstr
        have hcat := catB (63 :: noCr (raw.take i)) [c] (by simp; omega)
        simp -implicitDefEqProofs (disch := first | assumption | (simp only [wnA]; done) | (simp only [wnA]; omega) | omega | fail) [wkA, retV, stabOk, dC, ev, fillD, pickCells, putAt, bnd, slD, List.getElem?_cons_zero, List.getElem?_cons_succ, dR.eq_20, Mem.cell, Mem.row, wmA, u11, u52, hbs, hcat, w1]
        exact hK2 (q - 1) _ _ (by omega) ⟨i + 1, by omega, k4.push _, hT4.old ((Old.refl _).push _), by first | exact u9 | simp [u9], by rw [htk]; first | rfl | simp, by first | exact u50 | simp [u50], by first | exact u51 | simp [u51], by first | rfl | simp⟩
    · have hii : i = raw.length := by omega
      subst hii
      have hil' : ¬ ((raw.length : Nat) : Int) < (raw.length : Nat) := by omega
      rw [List.take_length] at u11
      have hnl := noCr_len raw
      have hcat := catB (63 :: noCr raw) [13] (by simp; omega)
      have hcat : dBin .add (.string ⟨⟨63 :: noCr raw⟩⟩) (.string ⟨#[13]⟩) = some (.string ⟨⟨63 :: noCr raw ++ [13]⟩⟩) := hcat
      have hnc : ∀ c ∈ 63 :: noCr raw, c ≠ 13 := fun c hc => by
        rcases List.mem_cons.1 hc with rfl | hc
        · decide
        · have := (List.mem_filter.1 hc).2
          simpa using this
      have htk : (63 :: noCr raw).take 80 = 63 :: (noCr raw).take 79 := rfl
      generalize noCr raw = R at *
      obtain ⟨LB, hLB⟩ : ∃ LB, LB = 63 :: R ++ [13] := ⟨_, rfl⟩
      rw [← hLB] at hcat
      have hlen : LB.length = (63 :: R).length + 1 := by rw [hLB]; simp
      have hlen2 : LB.length ≤ 3000000 := by rw [hlen]; simp; omega
      simp -implicitDefEqProofs (disch := first | assumption | (simp only [wnA]; done) | (simp only [wnA]; omega) | omega | fail) [rc6_3, rc6_4, wkA, retV, stabOk, dC, ev, fillD, pickCells, putAt, bnd, slD, List.getElem?_cons_zero, List.getElem?_cons_succ, dR.eq_20, Mem.cell, Mem.row, wmA, u9, u11, u51, u52, hil', hcat]
      rw [SK_s2b (s := ⟨⟨LB⟩⟩) (by simp [wkA, retV, stabOk, dC, ev, fillD, pickCells, putAt, bnd, slD, List.getElem?_cons_zero, List.getElem?_cons_succ, dR.eq_20]) (by show LB.length ≤ _; omega)]
      have hown := own1 m4 LB
      have hTp := hT4.pushV (.own (LB.map byteV) 5)
      have kp : Keeps (fun i => i < m0.next) m1 (m4.push (.own (LB.map byteV) 5)) := k4.push _
      generalize hm5 : m4.push (.own (LB.map byteV) 5) = m5 at *
      have hsz : ByteArray.size ⟨⟨LB⟩⟩ = LB.length := rfl
      rw [hsz]
      simp -implicitDefEqProofs (disch := first | assumption | (simp only [wnA]; done) | (simp only [wnA]; omega) | omega | fail) [wkA, retV, stabOk, dC, ev, fillD, pickCells, putAt, bnd, slD, List.getElem?_cons_zero, List.getElem?_cons_succ, dR.eq_20, Mem.cell, Mem.row, wmA, u9]
      rw [hLB] at hown
      rw [show (63 :: R ++ [13] : List UInt8).length = (63 :: R).length + 1 by simp] at hown
      rw [hlen]
      have hVp : ∀ i, i < L0.n → (fun i => i < m0.next ∨ i = m4.next) i := fun i hi => .inl (hV i hi)
      refine c_tLine (l := 63 :: R) (o := askedL) (s := { tg0 sp tr wt with asleep := false }) (s' := { tg0 sp tr wt with asleep := false }) ht hVp (hp1.keepV kp hV) rfl rfl hTp hown (fun i hi => by cases hi; exact .inr rfl) (by simp; omega) (by simp [askedL, promptL]) hnc (fun s1 h => by subst h; rw [htk]; exact does_q (by rw [List.length_take]; omega)) fun u5 m6 hT6 k6 hu6 hub6 => ?_
      have k6' : Keeps (fun i => i < m0.next) m1 m6 := kp.trans (k6.mono fun i _ hi => .inl hi)
      have hT6 : TgV (fun i => i < m0.next) m6 it { tg0 sp tr wt with asleep := false } := hT6.weak fun i hi => .inl hi
      have hb6 := hu6.bstr
      have ec6 : (askedL == ([63, 13, 10, 61, 62, 32] : List UInt8)) = true := rfl
      simp -implicitDefEqProofs (disch := first | assumption | (simp only [wnA]; done) | (simp only [wnA]; omega) | omega | fail) [wkA, retV, stabOk, dC, ev, fillD, pickCells, putAt, bnd, slD, List.getElem?_cons_zero, List.getElem?_cons_succ, dR.eq_20, Mem.cell, Mem.row, wmA, hb6, ec6, u9]
      rw [SK_bsl (cs := [byteV 13]) (by simp [fillD, pickCells, wkA, retV, stabOk, dC, ev, fillD, pickCells, putAt, bnd, slD, List.getElem?_cons_zero, List.getElem?_cons_succ, dR.eq_20, byteV]) rfl]
      simp -implicitDefEqProofs (disch := first | assumption | (simp only [wnA]; done) | (simp only [wnA]; omega) | omega | fail) [wkA, retV, stabOk, dC, ev, fillD, pickCells, putAt, bnd, slD, List.getElem?_cons_zero, List.getElem?_cons_succ, dR.eq_20, Mem.cell, Mem.row, wmA, u9]
      have hown7 : SlR (m6.push (.own [byteV 13] 5)) 1 (.slice (some ⟨m6.next, 0, none⟩) 1 1) ((([] : List UInt8) ++ [13]).map byteV) (([] : List UInt8).length + 1) := own1 m6 [13]
      have hT7 := hT6.pushV (.own [byteV 13] 5)
      have kp7 : Keeps (fun i => i < m0.next) m1 (m6.push (.own [byteV 13] 5)) := k6'.push _
      have hVp7 : ∀ i, i < L0.n → (fun i => i < m0.next ∨ i = m6.next) i := fun i hi => .inl (hV i hi)
      refine c_tLine (l := []) (o := promptL) (s := { tg0 sp tr wt with asleep := false }) (s' := { tg0 sp tr wt with asleep := false }) ht hVp7 (hp1.keepV kp7 hV) rfl rfl hT7 hown7 (fun i hi => by cases hi; exact .inr rfl) (by simp) (by simp [promptL]) (fun c hc => by cases hc) (fun s1 h => by subst h; exact does_nil) fun u8 m8 hT8 k8 hu8 hub8 => ?_
      have hT8 : TgV (fun i => i < m0.next) m8 it { tg0 sp tr wt with asleep := false } := hT8.weak fun i hi => .inl hi
      have hb8 := hu8.bstr
      simp -implicitDefEqProofs (disch := first | assumption | (simp only [wnA]; done) | (simp only [wnA]; omega) | omega | fail) [wkA, retV, stabOk, dC, ev, fillD, pickCells, putAt, bnd, slD, List.getElem?_cons_zero, List.getElem?_cons_succ, dR.eq_20, Mem.cell, Mem.row, wmA, hb8, ecmp, u9]
      refine c_tReplies hT8 (by simp [tg0]) fun ob m9 h9 o9 n9 => ?_
      have hs9 : slen (slV ob 0 3) = some (.int .i64 ((0 : Nat) : Int)) := h9.slen
      simp -implicitDefEqProofs (disch := first | assumption | (simp only [wnA]; done) | (simp only [wnA]; omega) | omega | fail) [wkA, retV, stabOk, dC, ev, fillD, pickCells, putAt, bnd, slD, List.getElem?_cons_zero, List.getElem?_cons_succ, dR.eq_20, Mem.cell, Mem.row, wmA, hs9, tg0]
theorem absT_cfg {m : Mem} {td : TD} {cs : List Value} (h : AbsT m td cs) (hf : Fits (.recd [.int .i64, .int .i64]) td) : ∃ tr wt : Int, cs = [.int .i64 tr, .int .i64 wt] ∧ (Lit.int .i64 tr).wf = true ∧ (Lit.int .i64 wt).wf = true := by
  obtain ⟨l0, rfl, k, f⟩ := absT_recd h hf
  obtain ⟨d1, r1, c1, e1, rfl, rfl, h1, g1, k, f⟩ := absTs_cons k f
  obtain ⟨d2, r2, c2, e2, rfl, rfl, h2, g2, k, f⟩ := absTs_cons k f
  obtain ⟨rfl, rfl⟩ := absTs_nil k f
  obtain ⟨a, rfl, rfl, w1⟩ := absT_int h1 g1
  obtain ⟨b, rfl, rfl, w2⟩ := absT_int h2 g2
  exact ⟨a, b, rfl, w1, w2⟩
theorem l_AsleepI {w0 : World} {m : Mem} {cs : List Value} {k x : Int} {v : Value} {raw : List UInt8} {td : TD} (hc : AbsT m td cs) (hf : Fits (.recd [.int .i64, .int .i64]) td) (h1 : (Lit.int .u8 k).wf = true) (h2 : (Lit.int .u8 x).wf = true) (hp : Part L0 m) (ht : Ten w0) (hv : SlR m 1 v (raw.map byteV) raw.length) (hvb : ∀ b, blk v = some b → b < m.next) (hl : raw.length ≤ 2000000) :
    AbC Tryz.prog w0 6 [.agg ⟨cs⟩, .int .u8 k, .int .u8 x, v] m fun v _ => v = .bool true := by
  obtain ⟨tr, wt, rfl, -, -⟩ := absT_cfg hc hf
  have a1 := wf_u8 h1
  have a2 := wf_u8 h2
  obtain ⟨k, rfl⟩ : ∃ n : Nat, k = (n : Int) := ⟨k.toNat, by omega⟩
  have e : (UInt8.ofNat x.toNat).toNat = x.toNat := by simp; omega
  obtain ⟨c, rfl⟩ : ∃ c : UInt8, x = (c.toNat : Int) := ⟨UInt8.ofNat x.toNat, by omega⟩
  exact l_Asleep (by omega) hp ht hv hvb hl
end Go.Proofs.YtiapjjgmmiifmaaGreatDoor.Ab

namespace Go.Proofs.YtiapjjgmmiifmaaGreatDoor.targetAsleep
open Go Go.ChangeShapes Go.WideShapes Go.ChangeAt Go.RowKit Go.Proofs.YtiapjjgmmiifmaaGreatDoor.Ab
set_option linter.unusedVariables false
theorem own : ownKnob Tryz.prog.godebug = none := by kernel_rfl
theorem laidOut : laidOutB Tryz.prog = true := by kernel_rfl
set_option maxRecDepth 100000 in
theorem contract (H : Type) (enc : TypeId × Value → H) (W : World) (base : Nat) (args : Array Value) (ds gs : List (DataW H)) (before : List MemPlace)
    (hval : ∀ (j : Nat) t v, Tryz.f6.params[j]? = some t → args[j]? = some v → Value.okWide Tryz.prog W .any base t v)
    (hW : DataW.Whole enc Tryz.prog Tryz.f6.params.toList Rows.targetAsleepSpec.vars false W args.toList ds gs before) (hL : laidMetH Tryz.prog Rows.targetAsleepUptoRow.laid W) (hk : Rows.uptoSmall H (ds ++ gs) = true) :
    Calls Tryz.prog 6 args W fun e W' => ∃ v, e = .returned v ∧ Rows.targetAsleepSpec.post enc Tryz.prog Tryz.f6 false true false false W args v W' := by
  have hW' := hW
  have hL' : laidMet Tryz.prog Rows.targetAsleepUptoRow.laid W := hL
  obtain ⟨p, q, hA0, hV, rfl, hfz, hnd⟩ := hW
  have hA : DataW.TrodAll enc Tryz.prog W 0 (fun _ => true) true Tryz.f6.params.toList args.toList ds p := hA0
  rw [Tryz.params6] at hA hval
  obtain ⟨v0, vs0, d0, ds0, p0, q0, hargs, rfl, rfl, h0, r0⟩ := trodAll_cons hA
  obtain ⟨v1, vs1, d1, ds1, p1, q1, rfl, rfl, rfl, h1, r1⟩ := trodAll_cons r0
  obtain ⟨v2, vs2, d2, ds2, p2, q2, rfl, rfl, rfl, h2, r2⟩ := trodAll_cons r1
  obtain ⟨v3, vs3, d3, ds3, p3, q3, rfl, rfl, rfl, h3, r3⟩ := trodAll_cons r2
  obtain ⟨rfl, rfl, rfl⟩ := trodAll_nil r3
  obtain rfl : args = #[v0, v1, v2, v3] := by cases args; simp_all
  obtain ⟨rfl, rfl⟩ := trodVars_none hV
  obtain ⟨a0, rfl, sz0⟩ := okWide_struct Tryz.underlying28 (hval 0 28 v0 rfl rfl)
  have lt0 : ∀ x ∈ p0, x.block < W.heap.size := by obtain ⟨m, hm⟩ := h0; exact DataW.trod_lt m _ _ _ hm
  obtain ⟨a1, rfl⟩ := okWide_int Tryz.underlying5 (hval 1 5 v1 rfl rfl)
  have lt1 : ∀ x ∈ p1, x.block < W.heap.size := by obtain ⟨m, hm⟩ := h1; exact DataW.trod_lt m _ _ _ hm
  obtain ⟨a2, rfl⟩ := okWide_int Tryz.underlying5 (hval 2 5 v2 rfl rfl)
  have lt2 : ∀ x ∈ p2, x.block < W.heap.size := by obtain ⟨m, hm⟩ := h2; exact DataW.trod_lt m _ _ _ hm
  obtain ⟨a3, len3, cap3, rfl⟩ := okWide_slice Tryz.underlying23 (hval 3 23 v3 rfl rfl)
  have lt3 : ∀ x ∈ p3, x.block < W.heap.size := by obtain ⟨m, hm⟩ := h3; exact DataW.trod_lt m _ _ _ hm
  have hbk := of_decide_eq_true hk
  simp only [Rows.uptoBulkAll, List.append_nil] at hbk
  have s : St Tryz.prog W (G0 Tryz.prog) (toMem L0) W := St.laid globals_size L0_get laid_ok (laidIn hL' (List.mem_of_getElem? (i := 0) rfl) (List.mem_of_getElem? (i := 1) rfl) (List.mem_of_getElem? (i := 2) rfl))
  have hp : Part L0 (toMem L0) := Part.of L0_part (Nat.le_refl _) fun _ _ => rfl
  obtain ⟨G0, m0, x0, t0, g0, s0, u0, b0, f0, k0⟩ := arg_agg (k := 5) (s := (.recd [.int .i64, .int .i64])) (by kernel_rfl) h0 s
  have hp := g0.part hp
  obtain ⟨G1, m1, x1, t1, g1, s1, u1, b1, f1, k1⟩ := arg_one (k := 5) (s := .int .u8) (by kernel_rfl) h1 rfl s0
  have hp := g1.part hp
  have b0 := b0.mono g1.2.1 g1.2.2
  have u0 := u0.mono g1.1
  obtain ⟨G2, m2, x2, t2, g2, s2, u2, b2, f2, k2⟩ := arg_one (k := 5) (s := .int .u8) (by kernel_rfl) h2 rfl s1
  have hp := g2.part hp
  have b0 := b0.mono g2.2.1 g2.2.2
  have u0 := u0.mono g2.1
  have b1 := b1.mono g2.2.1 g2.2.2
  have u1 := u1.mono g2.1
  obtain ⟨G3, m3, x3, t3, g3, s3, u3, b3, f3, k3⟩ := arg_one (k := 5) (s := (.sl (.int .u8))) (by kernel_rfl) h3 rfl s2
  have hp := g3.part hp
  have b0 := b0.mono g3.2.1 g3.2.2
  have u0 := u0.mono g3.1
  have b1 := b1.mono g3.2.1 g3.2.2
  have u1 := u1.mono g3.1
  have b2 := b2.mono g3.2.1 g3.2.2
  have u2 := u2.mono g3.1
  refine (AbC_true s3 (.cons _ _ _ _ u0 (.cons _ _ _ _ u1 (.cons _ _ _ _ u2 (.cons _ _ _ _ u3 .nil)))) ((by obtain ⟨n1, hx1, -, w1⟩ := absT_int b1 f1; cases hx1; obtain ⟨n2, hx2, -, w2⟩ := absT_int b2 f2; cases hx2; obtain ⟨bs, c3, d3, l3⟩ := absT_bys b3 f3; exact l_AsleepI b0 f0 w1 w2 hp (ten_of hL' (List.mem_of_getElem? (i := 2) rfl)) c3 d3 (by omega))) (by kernel_rfl)).mono fun e W' ⟨he, bel⟩ => ?_
  subst he
  exact ⟨_, rfl, _, _, _, [], _, [], hW', trodAll_mk1 (shut_bool Tryz.underlying4 _), (trodAll_cons_mk (Below.trod laidOut (by kernel_rfl) (of_decide_eq_true (by kernel_rfl)) h0 bel lt0) (trodAll_cons_mk (Below.trod laidOut (by kernel_rfl) (of_decide_eq_true (by kernel_rfl)) h1 bel lt1) (trodAll_cons_mk (Below.trod laidOut (by kernel_rfl) (of_decide_eq_true (by kernel_rfl)) h2 bel lt2) (trodAll_cons_mk (Below.trod laidOut (by kernel_rfl) (of_decide_eq_true (by kernel_rfl)) h3 bel lt3) trodAll_mk0)))), rfl, bel.frame _, fun h => by cases h⟩
noncomputable def laidWorld (os : Os) : World :=
  let N := (World.settled Tryz.prog os).heap.size
  { World.holding Tryz.prog os ⟨#[.cells #[.string ⟨#[118, 97, 108, 117, 101, 32, 111, 117, 116, 32, 111, 102, 32, 114, 97, 110, 103, 101]⟩] 190, .cells #[.string ⟨#[105, 110, 118, 97, 108, 105, 100, 32, 115, 121, 110, 116, 97, 120]⟩] 190], #[], []⟩ with heap := ((((((((World.holding Tryz.prog os ⟨#[.cells #[.string ⟨#[118, 97, 108, 117, 101, 32, 111, 117, 116, 32, 111, 102, 32, 114, 97, 110, 103, 101]⟩] 190, .cells #[.string ⟨#[105, 110, 118, 97, 108, 105, 100, 32, 115, 121, 110, 116, 97, 120]⟩] 190], #[], []⟩).heap.modify 1 fun | .cells _ t frozen => .cells ⟨e32⟩ t frozen | o => o).modify 2 fun | .cells _ t frozen => .cells ⟨e64⟩ t frozen | o => o).modify 0 fun | .cells _ t frozen => .cells ⟨e10⟩ t frozen | o => o).modify 5 fun | .cells _ t frozen => .cells #[.iface 188 (.pointer (some ⟨N, 0, none⟩))] t frozen | o => o).modify 4 fun | .cells _ t frozen => .cells #[.iface 188 (.pointer (some ⟨N + 1, 0, none⟩))] t frozen | o => o).modify 6 fun | .cells _ t frozen => .cells ⟨Go.Pinned.utf8FirstZ.map fun (n : Nat) => Value.int .u8 (n : Int)⟩ t frozen | o => o).modify 7 fun | .cells _ t frozen => .cells ⟨([128, 191, 160, 191, 128, 159, 144, 191, 128, 143] ++ List.replicate 22 0 : List Int).map fun (n : Int) => Value.int .u8 n⟩ t frozen | o => o) }
theorem laid_met (os : Os) : laidMet Tryz.prog Rows.targetAsleepUptoRow.laid ((laidWorld os).forCall (fun _ _ => 0) ⟨#[], #[(.agg #[.int .i64 0, .int .i64 0] : Value), (.int .u8 0 : Value), (.int .u8 0 : Value), (.slice none 0 0 : Value)], []⟩).memory :=
  laidMet_of_run' 8 (by kernel_rfl) (by kernel_rfl)
theorem reads (os : Os) {H : Type} (enc : TypeId × Value → H) : ∃ places, DataW.whole enc Tryz.prog ((laidWorld os).forCall (fun _ _ => 0) ⟨#[], #[(.agg #[.int .i64 0, .int .i64 0] : Value), (.int .u8 0 : Value), (.int .u8 0 : Value), (.slice none 0 0 : Value)], []⟩).memory Tryz.f6.params.toList Rows.targetAsleepSpec.vars false [(.agg #[.int .i64 0, .int .i64 0] : Value), (.int .u8 0 : Value), (.int .u8 0 : Value), (.slice none 0 0 : Value)] 8 = some ([.agg [.lit (.int .i64 0), .lit (.int .i64 0)], .lit (.int .u8 0), .lit (.int .u8 0), .nil], [], places) :=
  ⟨[], by kernel_rfl⟩
set_option maxRecDepth 100000 in
theorem lifted (os : Os) (started : os.Started) (H : Type) (enc : TypeId × Value → H) (F : Stop.Interp) :
    ReturnsInHanded {} Tryz.checked os 6 .any ((Rows.OpenSpec.upto Rows.targetAsleepSpec).preRow enc Tryz.prog Tryz.f6 Rows.targetAsleepUptoRow.domain false Rows.targetAsleepUptoRow.laid) (((Rows.OpenSpec.upto Rows.targetAsleepSpec).at F).post enc Tryz.prog Tryz.f6 false true false false) := by
  obtain ⟨places, hx⟩ := reads os enc
  refine returnsInHanded_of_row (C := Tryz.checked) (s := (Rows.OpenSpec.upto Rows.targetAsleepSpec)) own started (by kernel_rfl) Tryz.func6
    (witness_row_atRef (enc := enc) (C := Tryz.checked) false (laidWorld os) #[(.agg #[.int .i64 0, .int .i64 0] : Value), (.int .u8 0 : Value), (.int .u8 0 : Value), (.slice none 0 0 : Value)] rfl (by kernel_rfl) (by kernel_rfl) (by kernel_rfl)
      (OpenSpec.preRow_of_cond 8 hx (by kernel_rfl) (fun k hk => by cases hk; kernel_rfl) (by kernel_rfl) (laid_met os))) ?_
  intro W base args ds gs before hval hW _ hcond _ hL _ _
  exact contract H enc W base args ds gs before hval hW hL (hcond _ rfl)
theorem over : Rows.TargetAsleepUptoSaid :=
  OpenClaim.holds_of_cond 6 Tryz.f6 rfl rfl rfl rfl rfl rfl rfl ⟨rfl, rfl, rfl, rfl, rfl⟩ rfl rfl rfl rfl rfl (by kernel_rfl) Tryz.func6 (by kernel_rfl)
    (of_decide_eq_true (by kernel_rfl)) (by unfold Func.isWrapper; first | (rw [if_pos (by decide +kernel)]; kernel_rfl) | (rw [if_neg (by decide +kernel)]; exact ⟨rfl, rfl⟩))
    (fun os started H enc _ F => by rw [OpenClaim.pre_eq_preRow]; exact lifted os started H enc F)
theorem plain (f : FuncId) (fn : Func) (hf : Tryz.pinned.checked.prog.funcNamed "lifeline/lifelinelaw20.TargetAsleep" = some f) (hfn : Tryz.pinned.checked.prog.funcs[f]? = some fn) :
    true = Tryz.pinned.checked.prog.looks [] ∧ ∀ (j : Nat) t, fn.params[j]? = some t → Tryz.pinned.checked.prog.wantsStandIn t = false := by
  obtain rfl : f = 6 := Option.some.inj ((show Tryz.prog.funcNamed "lifeline/lifelinelaw20.TargetAsleep" = some 6 by kernel_rfl).symm.trans hf) |>.symm
  obtain rfl : fn = Tryz.f6 := (Option.some.inj (Tryz.func6.symm.trans hfn)).symm
  refine ⟨by kernel_rfl, fun j t ht => ?_⟩
  rw [Tryz.params6] at ht
  have hall : ∀ t ∈ [28, 5, 5, 23], Tryz.prog.wantsStandIn t = false := by
    intro t ht
    simp only [List.mem_cons, List.mem_nil_iff, or_false] at ht
    rcases ht with rfl | rfl | rfl | rfl <;> kernel_rfl
  exact hall t (by simpa using Array.mem_of_getElem? ht)
theorem proved : Rows.TargetAsleepUptoCardSaid :=
  Claim7.holds_tied_plain_at .later [] _ _ _ _ over (fun _ h => by cases h) (by kernel_rfl) (fun _ h => by cases h) targetAsleepUpto_row_tie rfl ⟨rfl, rfl⟩ (by kernel_rfl) rfl plain (by kernel_rfl)
#print axioms proved
end Go.Proofs.YtiapjjgmmiifmaaGreatDoor.targetAsleep
