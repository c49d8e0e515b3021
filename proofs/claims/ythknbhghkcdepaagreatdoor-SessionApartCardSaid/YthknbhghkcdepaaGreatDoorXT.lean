/- The functions that joist/joistlaw20.alive reach, as the interpreter has them, and that they are the program's. No condition. -/
import Derived.Test.YthknbhghkcdepaaGreatDoorJClone
import Derived.Test.YthknbhghkcdepaaGreatDoorProg
import Derived.KernelRfl
set_option maxRecDepth 100000
set_option maxHeartbeats 4000000
set_option linter.unusedVariables false
namespace Go.Proofs.YthknbhghkcdepaaGreatDoor.X
open Go Go.J Go.Proofs
-- joist/joistlaw20.alive
def k8_0 : KC := (.reg [⟨(some 0), none, .mv (.const (Value.bool false))⟩])
def k8_1 : KC := (.reg [⟨(some 13), none, .call (.func 14) []⟩,
    ⟨(some 1), none, .mv (.tmp 13)⟩])
def k8_2 : KC := (.seq (.reg [⟨(some 14), none, .mv (.tmp 1)⟩,
    ⟨(some 15), none, .eqn false false (.tmp 14)⟩,
    ⟨(some 16), none, .mv (.tmp 15)⟩,
    ⟨(some 17), (some (16, false)), .mv (.tmp 1)⟩,
    ⟨(some 18), (some (16, false)), .call (.func 17) [(.tmp 17), (.const (Value.int IntKind.i64 1)), (.const (Value.int IntKind.i64 5)), (.const (Value.int IntKind.i64 17))]⟩,
    ⟨(some 19), (some (16, false)), .not (.tmp 18)⟩,
    ⟨(some 20), none, .pick (.tmp 16) (.const (Value.bool true)) (.tmp 19)⟩,
    ⟨(some 21), none, .mv (.tmp 20)⟩,
    ⟨(some 22), (some (21, false)), .mv (.tmp 1)⟩,
    ⟨(some 23), (some (21, false)), .call (.func 17) [(.tmp 22), (.const (Value.int IntKind.i64 1)), (.const (Value.int IntKind.i64 5)), (.const (Value.int IntKind.i64 0))]⟩,
    ⟨(some 24), none, .pick (.tmp 21) (.const (Value.bool true)) (.tmp 23)⟩])
  (.cond (.tmp 24) (.seq (.reg [⟨(some 0), none, .mv (.const (Value.bool false))⟩])
  .ret) .skip))
def k8_3 : KC := (.reg [⟨(some 26), none, .mv (.tmp 1)⟩,
    ⟨(some 27), none, .call (.func 15) [(.tmp 26), (.const (Value.int IntKind.i64 1)), (.const (Value.int IntKind.i64 5))]⟩,
    ⟨(some 25), none, .mv (.tmp 27)⟩,
    ⟨(some 28), none, .ext (.tmp 25) 0⟩,
    ⟨(some 29), none, .ext (.tmp 25) 1⟩,
    ⟨(some 2), none, .mv (.tmp 28)⟩,
    ⟨(some 3), none, .mv (.tmp 29)⟩])
def k8_4 : KC := (.reg [⟨(some 31), none, .mv (.tmp 1)⟩,
    ⟨(some 32), none, .call (.func 15) [(.tmp 31), (.const (Value.int IntKind.i64 1)), (.const (Value.int IntKind.i64 4))]⟩,
    ⟨(some 30), none, .mv (.tmp 32)⟩,
    ⟨(some 33), none, .ext (.tmp 30) 0⟩,
    ⟨(some 34), none, .ext (.tmp 30) 1⟩,
    ⟨(some 4), none, .mv (.tmp 33)⟩,
    ⟨(some 5), none, .mv (.tmp 34)⟩])
def k8_5 : KC := (.reg [⟨(some 36), none, .mv (.tmp 1)⟩,
    ⟨(some 37), none, .call (.func 15) [(.tmp 36), (.const (Value.int IntKind.i64 1)), (.const (Value.int IntKind.i64 7))]⟩,
    ⟨(some 35), none, .mv (.tmp 37)⟩,
    ⟨(some 38), none, .ext (.tmp 35) 0⟩,
    ⟨(some 39), none, .ext (.tmp 35) 1⟩,
    ⟨(some 6), none, .mv (.tmp 38)⟩,
    ⟨(some 7), none, .mv (.tmp 39)⟩])
def k8_6 : KC := (.reg [⟨(some 40), none, .bld [Value.int IntKind.i64 0, Value.int IntKind.i64 0, Value.int IntKind.i64 0, Value.int IntKind.i64 0, Value.int IntKind.i64 0, Value.slice none 0 0, Value.string { data := #[] }, Value.string { data := #[] }, Value.string { data := #[] }, Value.int IntKind.i64 0, Value.int IntKind.i64 0, Value.int IntKind.i64 0, Value.int IntKind.i64 0, Value.int IntKind.i64 0, Value.string { data := #[] }, Value.string { data := #[] }, Value.int IntKind.i64 0, Value.int IntKind.i64 0, Value.int IntKind.i64 0, Value.int IntKind.i64 0, Value.int IntKind.i64 0, Value.slice none 0 0] [(0, 1), (1, 1), (2, 1), (3, 1), (4, 1), (5, 1), (6, 1), (7, 1), (8, 1), (9, 1), (10, 1), (11, 1), (12, 1), (13, 7), (20, 1), (21, 1)] [(0, (.const (Value.int IntKind.i64 7))), (4, (.const (Value.int IntKind.i64 300)))]⟩,
    ⟨(some 8), none, .alloc [Value.int IntKind.i64 0, Value.int IntKind.i64 0, Value.int IntKind.i64 0, Value.int IntKind.i64 0, Value.int IntKind.i64 0, Value.slice none 0 0, Value.string { data := #[] }, Value.string { data := #[] }, Value.string { data := #[] }, Value.int IntKind.i64 0, Value.int IntKind.i64 0, Value.int IntKind.i64 0, Value.int IntKind.i64 0, Value.int IntKind.i64 0, Value.string { data := #[] }, Value.string { data := #[] }, Value.int IntKind.i64 0, Value.int IntKind.i64 0, Value.int IntKind.i64 0, Value.int IntKind.i64 0, Value.int IntKind.i64 0, Value.slice none 0 0]⟩,
    ⟨none, none, .store 22 (.tmp 8) (.tmp 40)⟩])
def k8_7 : KC := (.reg [⟨(some 42), none, .loadA 22 (.tmp 8)⟩,
    ⟨(some 43), none, .call (.func 10) [(.tmp 42)]⟩,
    ⟨(some 41), none, .mv (.tmp 43)⟩,
    ⟨(some 44), none, .ext (.tmp 41) 0⟩,
    ⟨(some 45), none, .ext (.tmp 41) 1⟩,
    ⟨(some 9), none, .mv (.tmp 44)⟩,
    ⟨(some 10), none, .mv (.tmp 45)⟩])
def k8_8 : KC := (.reg [⟨(some 47), none, .mv (.tmp 9)⟩,
    ⟨(some 48), none, .call (.func 12) [(.tmp 47)]⟩,
    ⟨(some 46), none, .mv (.tmp 48)⟩,
    ⟨(some 49), none, .ext (.tmp 46) 0⟩,
    ⟨(some 50), none, .ext (.tmp 46) 1⟩,
    ⟨(some 11), none, .alloc [Value.int IntKind.i64 0, Value.int IntKind.i64 0, Value.int IntKind.i64 0, Value.int IntKind.i64 0, Value.int IntKind.i64 0, Value.slice none 0 0, Value.string { data := #[] }, Value.string { data := #[] }, Value.string { data := #[] }, Value.int IntKind.i64 0, Value.int IntKind.i64 0, Value.int IntKind.i64 0, Value.int IntKind.i64 0, Value.int IntKind.i64 0, Value.string { data := #[] }, Value.string { data := #[] }, Value.int IntKind.i64 0, Value.int IntKind.i64 0, Value.int IntKind.i64 0, Value.int IntKind.i64 0, Value.int IntKind.i64 0, Value.slice none 0 0]⟩,
    ⟨none, none, .store 22 (.tmp 11) (.tmp 49)⟩,
    ⟨(some 12), none, .mv (.tmp 50)⟩])
def k8_9 : KC := (.reg [⟨(some 51), none, .mv (.tmp 2)⟩,
    ⟨(some 52), none, .not (.tmp 51)⟩,
    ⟨(some 53), none, .mv (.tmp 52)⟩,
    ⟨(some 54), (some (53, true)), .mv (.tmp 3)⟩,
    ⟨(some 55), (some (53, true)), .bin .eql 25 (.tmp 54) (.const (Value.int IntKind.i64 17)) 25 4⟩,
    ⟨(some 56), none, .pick (.tmp 53) (.tmp 55) (.const (Value.bool false))⟩,
    ⟨(some 57), none, .mv (.tmp 56)⟩,
    ⟨(some 58), (some (57, true)), .mv (.tmp 4)⟩,
    ⟨(some 59), (some (57, true)), .not (.tmp 58)⟩,
    ⟨(some 60), none, .pick (.tmp 57) (.tmp 59) (.const (Value.bool false))⟩,
    ⟨(some 61), none, .mv (.tmp 60)⟩,
    ⟨(some 62), (some (61, true)), .mv (.tmp 5)⟩,
    ⟨(some 63), (some (61, true)), .bin .eql 25 (.tmp 62) (.const (Value.int IntKind.i64 19)) 25 4⟩,
    ⟨(some 64), none, .pick (.tmp 61) (.tmp 63) (.const (Value.bool false))⟩,
    ⟨(some 65), none, .mv (.tmp 64)⟩,
    ⟨(some 66), (some (65, true)), .mv (.tmp 6)⟩,
    ⟨(some 67), none, .pick (.tmp 65) (.tmp 66) (.const (Value.bool false))⟩,
    ⟨(some 68), none, .mv (.tmp 67)⟩,
    ⟨(some 69), (some (68, true)), .mv (.tmp 7)⟩,
    ⟨(some 70), (some (68, true)), .bin .eql 25 (.tmp 69) (.const (Value.int IntKind.i64 0)) 25 4⟩,
    ⟨(some 71), none, .pick (.tmp 68) (.tmp 70) (.const (Value.bool false))⟩,
    ⟨(some 72), none, .mv (.tmp 71)⟩,
    ⟨(some 73), (some (72, true)), .mv (.tmp 10)⟩,
    ⟨(some 74), none, .pick (.tmp 72) (.tmp 73) (.const (Value.bool false))⟩,
    ⟨(some 75), none, .mv (.tmp 74)⟩,
    ⟨(some 76), (some (75, true)), .mv (.tmp 12)⟩,
    ⟨(some 77), none, .pick (.tmp 75) (.tmp 76) (.const (Value.bool false))⟩,
    ⟨(some 78), none, .mv (.tmp 77)⟩,
    ⟨(some 79), (some (78, true)), .loadA 22 (.tmp 11)⟩,
    ⟨(some 80), (some (78, true)), .loadA 22 (.tmp 8)⟩,
    ⟨(some 81), (some (78, true)), .call (.func 13) [(.tmp 79), (.tmp 80)]⟩,
    ⟨(some 82), none, .pick (.tmp 78) (.tmp 81) (.const (Value.bool false))⟩,
    ⟨(some 83), none, .mv (.tmp 82)⟩,
    ⟨(some 84), (some (83, true)), .mv (.tmp 1)⟩,
    ⟨(some 85), (some (83, true)), .call (.func 18) [(.tmp 84), (.const (Value.int IntKind.i64 1))]⟩,
    ⟨(some 86), (some (83, true)), .bin .eql 3 (.tmp 85) (.const (Value.int IntKind.i64 5)) 3 4⟩,
    ⟨(some 87), none, .pick (.tmp 83) (.tmp 86) (.const (Value.bool false))⟩,
    ⟨(some 88), none, .mv (.tmp 87)⟩,
    ⟨(some 89), (some (88, true)), .loadA 22 (.tmp 8)⟩,
    ⟨(some 90), (some (88, true)), .call (.func 11) [(.tmp 89)]⟩,
    ⟨(some 91), none, .pick (.tmp 88) (.tmp 90) (.const (Value.bool false))⟩,
    ⟨(some 92), none, .mv (.tmp 91)⟩,
    ⟨(some 93), (some (92, true)), .bld [Value.int IntKind.i64 0, Value.int IntKind.i64 0, Value.int IntKind.i64 0, Value.int IntKind.i64 0, Value.int IntKind.i64 0, Value.slice none 0 0, Value.string { data := #[] }, Value.string { data := #[] }, Value.string { data := #[] }, Value.int IntKind.i64 0, Value.int IntKind.i64 0, Value.int IntKind.i64 0, Value.int IntKind.i64 0, Value.int IntKind.i64 0, Value.string { data := #[] }, Value.string { data := #[] }, Value.int IntKind.i64 0, Value.int IntKind.i64 0, Value.int IntKind.i64 0, Value.int IntKind.i64 0, Value.int IntKind.i64 0, Value.slice none 0 0] [(0, 1), (1, 1), (2, 1), (3, 1), (4, 1), (5, 1), (6, 1), (7, 1), (8, 1), (9, 1), (10, 1), (11, 1), (12, 1), (13, 7), (20, 1), (21, 1)] []⟩,
    ⟨(some 94), (some (92, true)), .call (.func 11) [(.tmp 93)]⟩,
    ⟨(some 95), (some (92, true)), .not (.tmp 94)⟩,
    ⟨(some 96), none, .pick (.tmp 92) (.tmp 95) (.const (Value.bool false))⟩,
    ⟨(some 0), none, .mv (.tmp 96)⟩])
def k8_10 : KC := .ret
def k8 : KF := ⟨(.seq k8_0 (.seq k8_1 (.seq k8_2 (.seq k8_3 (.seq k8_4 (.seq k8_5 (.seq k8_6 (.seq k8_7 (.seq k8_8 (.seq k8_9 k8_10)))))))))), 97, [.tmp 0], true⟩
theorem c8 : cmpF Tryz.prog [] k8.pure 8 = some k8 := by kernel_rfl
-- joist/session.Encode
def k10 : KF := ⟨(.seq (.reg [⟨(some 1), none, .box (.tmp 0)⟩,
    ⟨(some 2), none, .mv (.const (Value.slice none 0 0))⟩,
    ⟨(some 3), none, .mv (.const (Value.bool false))⟩])
  (.seq (.seq (.reg [⟨(some 11), none, .loadA 22 (.tmp 1)⟩,
    ⟨(some 12), none, .call (.func 11) [(.tmp 11)]⟩,
    ⟨(some 13), none, .not (.tmp 12)⟩])
  (.cond (.tmp 13) (.seq (.reg [⟨(some 2), none, .mv (.const (Value.slice none 0 0))⟩,
    ⟨(some 3), none, .mv (.const (Value.bool false))⟩])
  .ret) .skip))
  (.seq (.reg [⟨(some 14), none, .bld [Value.slice none 0 0] [(0, 1)] []⟩,
    ⟨(some 15), none, .box (.tmp 14)⟩,
    ⟨(some 4), none, .mv (.tmp 15)⟩])
  (.seq (.reg [⟨(some 16), none, .mv (.tmp 4)⟩,
    ⟨(some 17), none, .fld 0 (.tmp 1)⟩,
    ⟨(some 18), none, .load (.tmp 17)⟩,
    ⟨(some 19), none, .fld 1 (.tmp 1)⟩,
    ⟨(some 20), none, .load (.tmp 19)⟩,
    ⟨(some 21), none, .fld 2 (.tmp 1)⟩,
    ⟨(some 22), none, .load (.tmp 21)⟩,
    ⟨(some 23), none, .fld 3 (.tmp 1)⟩,
    ⟨(some 24), none, .load (.tmp 23)⟩,
    ⟨(some 25), none, .fld 4 (.tmp 1)⟩,
    ⟨(some 26), none, .load (.tmp 25)⟩,
    ⟨(some 27), none, .fld 9 (.tmp 1)⟩,
    ⟨(some 28), none, .load (.tmp 27)⟩,
    ⟨(some 29), none, .fld 10 (.tmp 1)⟩,
    ⟨(some 30), none, .load (.tmp 29)⟩,
    ⟨(some 31), none, .fld 11 (.tmp 1)⟩,
    ⟨(some 32), none, .load (.tmp 31)⟩,
    ⟨(some 33), none, .fld 12 (.tmp 1)⟩,
    ⟨(some 34), none, .load (.tmp 33)⟩,
    ⟨(some 35), none, .fld 20 (.tmp 1)⟩,
    ⟨(some 36), none, .load (.tmp 35)⟩,
    ⟨(some 37), none, .bls 1 [Value.int IntKind.i64 0] 10 [(0, (.tmp 18)), (1, (.tmp 20)), (2, (.tmp 22)), (3, (.tmp 24)), (4, (.tmp 26)), (5, (.tmp 28)), (6, (.tmp 30)), (7, (.tmp 32)), (8, (.tmp 34)), (9, (.tmp 36))]⟩,
    ⟨(some 38), none, .call (.func 26) [(.tmp 16), (.tmp 37)]⟩])
  (.seq (.reg [⟨(some 39), none, .mv (.tmp 4)⟩,
    ⟨(some 40), none, .fld 6 (.tmp 1)⟩,
    ⟨(some 41), none, .load (.tmp 40)⟩,
    ⟨(some 42), none, .fld 7 (.tmp 1)⟩,
    ⟨(some 43), none, .load (.tmp 42)⟩,
    ⟨(some 44), none, .fld 8 (.tmp 1)⟩,
    ⟨(some 45), none, .load (.tmp 44)⟩,
    ⟨(some 46), none, .bls 1 [Value.string { data := #[] }] 3 [(0, (.tmp 41)), (1, (.tmp 43)), (2, (.tmp 45))]⟩,
    ⟨(some 47), none, .call (.func 27) [(.tmp 39), (.tmp 46)]⟩])
  (.seq (.reg [⟨(some 48), none, .fld 13 (.tmp 1)⟩,
    ⟨(some 49), none, .loadA 7 (.tmp 48)⟩,
    ⟨(some 5), none, .alloc [Value.int IntKind.i64 0, Value.string { data := #[] }, Value.string { data := #[] }, Value.int IntKind.i64 0, Value.int IntKind.i64 0, Value.int IntKind.i64 0, Value.int IntKind.i64 0]⟩,
    ⟨none, none, .store 7 (.tmp 5) (.tmp 49)⟩])
  (.seq (.reg [⟨(some 50), none, .mv (.tmp 4)⟩,
    ⟨(some 51), none, .fld 0 (.tmp 5)⟩,
    ⟨(some 52), none, .load (.tmp 51)⟩,
    ⟨(some 53), none, .fld 3 (.tmp 5)⟩,
    ⟨(some 54), none, .load (.tmp 53)⟩,
    ⟨(some 55), none, .fld 4 (.tmp 5)⟩,
    ⟨(some 56), none, .load (.tmp 55)⟩,
    ⟨(some 57), none, .fld 5 (.tmp 5)⟩,
    ⟨(some 58), none, .load (.tmp 57)⟩,
    ⟨(some 59), none, .fld 6 (.tmp 5)⟩,
    ⟨(some 60), none, .load (.tmp 59)⟩,
    ⟨(some 61), none, .bls 1 [Value.int IntKind.i64 0] 5 [(0, (.tmp 52)), (1, (.tmp 54)), (2, (.tmp 56)), (3, (.tmp 58)), (4, (.tmp 60))]⟩,
    ⟨(some 62), none, .call (.func 26) [(.tmp 50), (.tmp 61)]⟩])
  (.seq (.reg [⟨(some 63), none, .mv (.tmp 4)⟩,
    ⟨(some 64), none, .fld 1 (.tmp 5)⟩,
    ⟨(some 65), none, .load (.tmp 64)⟩,
    ⟨(some 66), none, .fld 2 (.tmp 5)⟩,
    ⟨(some 67), none, .load (.tmp 66)⟩,
    ⟨(some 68), none, .bls 1 [Value.string { data := #[] }] 2 [(0, (.tmp 65)), (1, (.tmp 67))]⟩,
    ⟨(some 69), none, .call (.func 27) [(.tmp 63), (.tmp 68)]⟩])
  (.seq (.reg [⟨(some 70), none, .mv (.tmp 4)⟩,
    ⟨(some 71), none, .fld 5 (.tmp 1)⟩,
    ⟨(some 72), none, .load (.tmp 71)⟩,
    ⟨(some 73), none, .call (.func 28) [(.tmp 70), (.tmp 72)]⟩])
  (.seq (.seq (.reg [⟨(some 74), none, .fld 21 (.tmp 1)⟩,
    ⟨(some 75), none, .load (.tmp 74)⟩,
    ⟨(some 76), none, .len (.tmp 75)⟩,
    ⟨(some 77), none, .mv (.const (Value.int IntKind.i64 0))⟩])
  (.blk 0 (.loop (.seq (.reg [⟨(some 78), none, .bin .lss 3 (.tmp 77) (.tmp 76) 3 0⟩])
  (.seq (.cond (.tmp 78) .skip (.exit 0))
  (.seq (.blk 1 (.seq (.reg [⟨(some 79), none, .idx none 2 (.tmp 75) (.tmp 77)⟩,
    ⟨(some 80), none, .loadA 2 (.tmp 79)⟩,
    ⟨(some 7), none, .alloc [Value.string { data := #[] }, Value.slice none 0 0]⟩,
    ⟨none, none, .store 2 (.tmp 7) (.tmp 80)⟩])
  (.seq (.reg [⟨(some 81), none, .bld [Value.slice none 0 0] [(0, 1)] []⟩,
    ⟨(some 82), none, .box (.tmp 81)⟩,
    ⟨(some 8), none, .mv (.tmp 82)⟩])
  (.seq (.reg [⟨(some 83), none, .mv (.tmp 8)⟩,
    ⟨(some 84), none, .fld 0 (.tmp 7)⟩,
    ⟨(some 85), none, .load (.tmp 84)⟩,
    ⟨(some 86), none, .bls 1 [Value.string { data := #[] }] 1 [(0, (.tmp 85))]⟩,
    ⟨(some 87), none, .call (.func 27) [(.tmp 83), (.tmp 86)]⟩])
  (.seq (.seq (.reg [⟨(some 88), none, .fld 1 (.tmp 7)⟩,
    ⟨(some 89), none, .load (.tmp 88)⟩,
    ⟨(some 90), none, .len (.tmp 89)⟩,
    ⟨(some 91), none, .mv (.const (Value.int IntKind.i64 0))⟩])
  (.blk 2 (.loop (.seq (.reg [⟨(some 92), none, .bin .lss 3 (.tmp 91) (.tmp 90) 3 0⟩])
  (.seq (.cond (.tmp 92) .skip (.exit 2))
  (.seq (.blk 3 (.seq (.reg [⟨(some 93), none, .idx none 2 (.tmp 89) (.tmp 91)⟩,
    ⟨(some 94), none, .loadA 2 (.tmp 93)⟩,
    ⟨(some 10), none, .alloc [Value.int IntKind.i64 0, Value.int IntKind.i64 0]⟩,
    ⟨none, none, .store 2 (.tmp 10) (.tmp 94)⟩])
  (.reg [⟨(some 95), none, .mv (.tmp 8)⟩,
    ⟨(some 96), none, .fld 0 (.tmp 10)⟩,
    ⟨(some 97), none, .load (.tmp 96)⟩,
    ⟨(some 98), none, .fld 1 (.tmp 10)⟩,
    ⟨(some 99), none, .load (.tmp 98)⟩,
    ⟨(some 100), none, .bls 1 [Value.int IntKind.i64 0] 2 [(0, (.tmp 97)), (1, (.tmp 99))]⟩,
    ⟨(some 101), none, .call (.func 26) [(.tmp 95), (.tmp 100)]⟩])))
  (.reg [⟨(some 102), none, .bin .add 3 (.tmp 91) (.const (Value.int IntKind.i64 1)) 3 3⟩,
    ⟨(some 91), none, .mv (.tmp 102)⟩])))))))
  (.reg [⟨(some 103), none, .mv (.tmp 4)⟩,
    ⟨(some 104), none, .mv (.tmp 8)⟩,
    ⟨(some 105), none, .call (.func 29) [(.tmp 103), (.tmp 104)]⟩]))))))
  (.reg [⟨(some 106), none, .bin .add 3 (.tmp 77) (.const (Value.int IntKind.i64 1)) 3 3⟩,
    ⟨(some 77), none, .mv (.tmp 106)⟩])))))))
  (.seq (.reg [⟨(some 107), none, .mv (.tmp 4)⟩,
    ⟨(some 108), none, .nilck (.tmp 107)⟩,
    ⟨(some 109), none, .fld 0 (.tmp 108)⟩,
    ⟨(some 110), none, .load (.tmp 109)⟩,
    ⟨(some 111), none, .call (.func 30) [(.tmp 110)]⟩,
    ⟨(some 2), none, .mv (.tmp 111)⟩,
    ⟨(some 3), none, .mv (.const (Value.bool true))⟩])
  .ret))))))))))), 112, [.tmp 2, .tmp 3], false⟩
theorem c10 : cmpF Tryz.prog [] k10.pure 10 = some k10 := by kernel_rfl
-- joist/session.Right
def k11 : KF := ⟨(.seq (.reg [⟨(some 1), none, .box (.tmp 0)⟩,
    ⟨(some 2), none, .mv (.const (Value.bool false))⟩])
  (.seq (.reg [⟨(some 3), none, .mv (.func 31)⟩])
  (.seq (.blk 0 (.seq (.reg [⟨(some 5), none, .loadA 22 (.tmp 1)⟩,
    ⟨(some 6), none, .call (.func 33) [(.tmp 5)]⟩,
    ⟨(some 7), none, .not (.tmp 6)⟩,
    ⟨(some 8), none, .mv (.tmp 7)⟩,
    ⟨(some 9), (some (8, false)), .loadA 22 (.tmp 1)⟩,
    ⟨(some 10), (some (8, false)), .call (.func 34) [(.tmp 9)]⟩,
    ⟨(some 11), (some (8, false)), .not (.tmp 10)⟩,
    ⟨(some 12), none, .pick (.tmp 8) (.const (Value.bool true)) (.tmp 11)⟩,
    ⟨(some 4), none, .mv (.tmp 12)⟩])
  (.cond (.tmp 4) (.seq (.reg [⟨(some 2), none, .mv (.const (Value.bool false))⟩])
  .ret) (.seq (.reg [⟨(some 14), none, .fld 5 (.tmp 1)⟩,
    ⟨(some 15), none, .load (.tmp 14)⟩,
    ⟨(some 16), none, .len (.tmp 15)⟩,
    ⟨(some 17), none, .bin .gtr 3 (.tmp 16) (.const (Value.int IntKind.i64 64)) 3 4⟩,
    ⟨(some 18), none, .mv (.tmp 17)⟩,
    ⟨(some 19), (some (18, false)), .fld 5 (.tmp 1)⟩,
    ⟨(some 20), (some (18, false)), .load (.tmp 19)⟩,
    ⟨(some 21), (some (18, false)), .mv (.tmp 3)⟩,
    ⟨(some 22), (some (18, false)), .call (.func 35) [(.tmp 20), (.tmp 21)]⟩,
    ⟨(some 23), none, .pick (.tmp 18) (.const (Value.bool true)) (.tmp 22)⟩,
    ⟨(some 13), none, .mv (.tmp 23)⟩])
  (.cond (.tmp 13) (.seq (.reg [⟨(some 2), none, .mv (.const (Value.bool false))⟩])
  .ret) (.seq (.reg [⟨(some 25), none, .fld 21 (.tmp 1)⟩,
    ⟨(some 26), none, .load (.tmp 25)⟩,
    ⟨(some 27), none, .len (.tmp 26)⟩,
    ⟨(some 28), none, .bin .gtr 3 (.tmp 27) (.const (Value.int IntKind.i64 6)) 3 4⟩,
    ⟨(some 29), none, .mv (.tmp 28)⟩,
    ⟨(some 30), (some (29, false)), .fld 21 (.tmp 1)⟩,
    ⟨(some 31), (some (29, false)), .load (.tmp 30)⟩,
    ⟨(some 32), (some (29, false)), .call (.func 36) [(.tmp 31), (.func 37)]⟩,
    ⟨(some 33), none, .pick (.tmp 29) (.const (Value.bool true)) (.tmp 32)⟩,
    ⟨(some 24), none, .mv (.tmp 33)⟩])
  (.cond (.tmp 24) (.seq (.reg [⟨(some 2), none, .mv (.const (Value.bool false))⟩])
  .ret) .skip)))))))
  (.seq (.reg [⟨(some 34), none, .fld 13 (.tmp 1)⟩,
    ⟨(some 35), none, .loadA 7 (.tmp 34)⟩,
    ⟨(some 36), none, .bld [Value.int IntKind.i64 0, Value.string { data := #[] }, Value.string { data := #[] }, Value.int IntKind.i64 0, Value.int IntKind.i64 0, Value.int IntKind.i64 0, Value.int IntKind.i64 0] [(0, 1), (1, 1), (2, 1), (3, 1), (4, 1), (5, 1), (6, 1)] []⟩,
    ⟨(some 37), none, .bin .eql 24 (.tmp 35) (.tmp 36) 24 4⟩,
    ⟨(some 38), none, .mv (.tmp 37)⟩,
    ⟨(some 39), (some (38, false)), .fld 13 (.tmp 1)⟩,
    ⟨(some 40), (some (38, false)), .loadA 7 (.tmp 39)⟩,
    ⟨(some 41), (some (38, false)), .call (.func 38) [(.tmp 40)]⟩,
    ⟨(some 42), none, .pick (.tmp 38) (.const (Value.bool true)) (.tmp 41)⟩,
    ⟨(some 2), none, .mv (.tmp 42)⟩])
  .ret)))), 43, [.tmp 2], false⟩
theorem c11 : cmpF Tryz.prog [] k11.pure 11 = some k11 := by kernel_rfl
-- joist/session.Decode
def k12 : KF := ⟨(.seq (.reg [⟨(some 2), none, .alloc [Value.int IntKind.i64 0, Value.int IntKind.i64 0, Value.int IntKind.i64 0, Value.int IntKind.i64 0, Value.int IntKind.i64 0, Value.slice none 0 0, Value.string { data := #[] }, Value.string { data := #[] }, Value.string { data := #[] }, Value.int IntKind.i64 0, Value.int IntKind.i64 0, Value.int IntKind.i64 0, Value.int IntKind.i64 0, Value.int IntKind.i64 0, Value.string { data := #[] }, Value.string { data := #[] }, Value.int IntKind.i64 0, Value.int IntKind.i64 0, Value.int IntKind.i64 0, Value.int IntKind.i64 0, Value.int IntKind.i64 0, Value.slice none 0 0]⟩,
    ⟨(some 3), none, .mv (.const (Value.bool false))⟩])
  (.seq (.reg [⟨(some 16), none, .mv (.tmp 0)⟩,
    ⟨(some 17), none, .call (.func 39) [(.tmp 16)]⟩,
    ⟨(some 15), none, .mv (.tmp 17)⟩,
    ⟨(some 18), none, .ext (.tmp 15) 0⟩,
    ⟨(some 19), none, .ext (.tmp 15) 1⟩,
    ⟨(some 4), none, .mv (.tmp 18)⟩,
    ⟨(some 5), none, .mv (.tmp 19)⟩])
  (.seq (.seq (.reg [⟨(some 20), none, .mv (.tmp 5)⟩,
    ⟨(some 21), none, .not (.tmp 20)⟩,
    ⟨(some 22), none, .mv (.tmp 21)⟩,
    ⟨(some 23), (some (22, false)), .mv (.tmp 4)⟩,
    ⟨(some 24), (some (22, false)), .len (.tmp 23)⟩,
    ⟨(some 25), (some (22, false)), .bin .lss 3 (.tmp 24) (.const (Value.int IntKind.i64 21)) 3 4⟩,
    ⟨(some 26), none, .pick (.tmp 22) (.const (Value.bool true)) (.tmp 25)⟩])
  (.cond (.tmp 26) (.seq (.reg [⟨(some 27), none, .bld [Value.int IntKind.i64 0, Value.int IntKind.i64 0, Value.int IntKind.i64 0, Value.int IntKind.i64 0, Value.int IntKind.i64 0, Value.slice none 0 0, Value.string { data := #[] }, Value.string { data := #[] }, Value.string { data := #[] }, Value.int IntKind.i64 0, Value.int IntKind.i64 0, Value.int IntKind.i64 0, Value.int IntKind.i64 0, Value.int IntKind.i64 0, Value.string { data := #[] }, Value.string { data := #[] }, Value.int IntKind.i64 0, Value.int IntKind.i64 0, Value.int IntKind.i64 0, Value.int IntKind.i64 0, Value.int IntKind.i64 0, Value.slice none 0 0] [(0, 1), (1, 1), (2, 1), (3, 1), (4, 1), (5, 1), (6, 1), (7, 1), (8, 1), (9, 1), (10, 1), (11, 1), (12, 1), (13, 7), (20, 1), (21, 1)] []⟩,
    ⟨none, none, .store 22 (.tmp 2) (.tmp 27)⟩,
    ⟨(some 3), none, .mv (.const (Value.bool false))⟩])
  .ret) .skip))
  (.seq (.reg [⟨(some 28), none, .mv (.tmp 4)⟩,
    ⟨(some 29), none, .bld [Value.slice none 0 0] [(0, 1)] [(0, (.tmp 28))]⟩,
    ⟨(some 30), none, .box (.tmp 29)⟩,
    ⟨(some 6), none, .mv (.tmp 30)⟩])
  (.seq (.reg [⟨(some 7), none, .alloc [Value.int IntKind.i64 0, Value.int IntKind.i64 0, Value.int IntKind.i64 0, Value.int IntKind.i64 0, Value.int IntKind.i64 0, Value.slice none 0 0, Value.string { data := #[] }, Value.string { data := #[] }, Value.string { data := #[] }, Value.int IntKind.i64 0, Value.int IntKind.i64 0, Value.int IntKind.i64 0, Value.int IntKind.i64 0, Value.int IntKind.i64 0, Value.string { data := #[] }, Value.string { data := #[] }, Value.int IntKind.i64 0, Value.int IntKind.i64 0, Value.int IntKind.i64 0, Value.int IntKind.i64 0, Value.int IntKind.i64 0, Value.slice none 0 0]⟩])
  (.seq (.reg [⟨(some 8), none, .alloc [Value.int IntKind.i64 0]⟩])
  (.seq (.reg [⟨(some 31), none, .mv (.tmp 6)⟩,
    ⟨(some 32), none, .fld 0 (.tmp 7)⟩,
    ⟨(some 33), none, .fld 1 (.tmp 7)⟩,
    ⟨(some 34), none, .fld 2 (.tmp 7)⟩,
    ⟨(some 35), none, .fld 3 (.tmp 7)⟩,
    ⟨(some 36), none, .fld 4 (.tmp 7)⟩,
    ⟨(some 37), none, .fld 9 (.tmp 7)⟩,
    ⟨(some 38), none, .fld 10 (.tmp 7)⟩,
    ⟨(some 39), none, .fld 11 (.tmp 7)⟩,
    ⟨(some 40), none, .fld 12 (.tmp 7)⟩,
    ⟨(some 41), none, .bls 1 [Value.pointer none] 10 [(0, (.tmp 32)), (1, (.tmp 33)), (2, (.tmp 34)), (3, (.tmp 35)), (4, (.tmp 36)), (5, (.tmp 37)), (6, (.tmp 38)), (7, (.tmp 39)), (8, (.tmp 40)), (9, (.tmp 8))]⟩,
    ⟨(some 42), none, .call (.func 40) [(.tmp 31), (.tmp 41)]⟩])
  (.seq (.reg [⟨(some 43), none, .load (.tmp 8)⟩,
    ⟨(some 44), none, .fld 20 (.tmp 7)⟩,
    ⟨none, none, .store 1 (.tmp 44) (.tmp 43)⟩])
  (.seq (.reg [⟨(some 45), none, .mv (.tmp 6)⟩,
    ⟨(some 46), none, .fld 6 (.tmp 7)⟩,
    ⟨(some 47), none, .fld 7 (.tmp 7)⟩,
    ⟨(some 48), none, .fld 8 (.tmp 7)⟩,
    ⟨(some 49), none, .bls 1 [Value.pointer none] 3 [(0, (.tmp 46)), (1, (.tmp 47)), (2, (.tmp 48))]⟩,
    ⟨(some 50), none, .call (.func 41) [(.tmp 45), (.tmp 49)]⟩])
  (.seq (.reg [⟨(some 51), none, .fld 13 (.tmp 7)⟩,
    ⟨(some 9), none, .mv (.tmp 51)⟩])
  (.seq (.drw [⟨(some 52), none, .mv (.tmp 6)⟩,
    ⟨(some 53), none, .mv (.tmp 9)⟩,
    ⟨(some 54), none, .nilck (.tmp 53)⟩,
    ⟨(some 55), none, .fld 0 (.tmp 54)⟩,
    ⟨(some 56), none, .mv (.tmp 9)⟩,
    ⟨(some 57), none, .nilck (.tmp 56)⟩,
    ⟨(some 58), none, .fld 3 (.tmp 57)⟩,
    ⟨(some 59), none, .mv (.tmp 9)⟩,
    ⟨(some 60), none, .nilck (.tmp 59)⟩,
    ⟨(some 61), none, .fld 4 (.tmp 60)⟩,
    ⟨(some 62), none, .mv (.tmp 9)⟩,
    ⟨(some 63), none, .nilck (.tmp 62)⟩,
    ⟨(some 64), none, .fld 5 (.tmp 63)⟩,
    ⟨(some 65), none, .mv (.tmp 9)⟩,
    ⟨(some 66), none, .nilck (.tmp 65)⟩,
    ⟨(some 67), none, .fld 6 (.tmp 66)⟩,
    ⟨(some 68), none, .bls 1 [Value.pointer none] 5 [(0, (.tmp 55)), (1, (.tmp 58)), (2, (.tmp 61)), (3, (.tmp 64)), (4, (.tmp 67))]⟩,
    ⟨(some 69), none, .call (.func 40) [(.tmp 52), (.tmp 68)]⟩] [[], [], [1], [2], [], [4], [5], [], [7], [8], [], [10], [11], [], [13], [14], [3, 6, 9, 12, 15], [0, 16]] [0, 1, 2, 3, 4, 5, 6, 7, 8, 9, 10, 11, 12, 13, 14, 15, 16, 17])
  (.seq (.drw [⟨(some 70), none, .mv (.tmp 6)⟩,
    ⟨(some 71), none, .mv (.tmp 9)⟩,
    ⟨(some 72), none, .nilck (.tmp 71)⟩,
    ⟨(some 73), none, .fld 1 (.tmp 72)⟩,
    ⟨(some 74), none, .mv (.tmp 9)⟩,
    ⟨(some 75), none, .nilck (.tmp 74)⟩,
    ⟨(some 76), none, .fld 2 (.tmp 75)⟩,
    ⟨(some 77), none, .bls 1 [Value.pointer none] 2 [(0, (.tmp 73)), (1, (.tmp 76))]⟩,
    ⟨(some 78), none, .call (.func 41) [(.tmp 70), (.tmp 77)]⟩] [[], [], [1], [2], [], [4], [5], [3, 6], [0, 7]] [0, 1, 2, 3, 4, 5, 6, 7, 8])
  (.seq (.seq (.reg [⟨(some 79), none, .mv (.tmp 6)⟩,
    ⟨(some 80), none, .call (.func 42) [(.tmp 79)]⟩,
    ⟨(some 10), none, .mv (.tmp 80)⟩])
  (.blk 0 (.loop (.seq (.seq (.reg [⟨(some 81), none, .mv (.tmp 10)⟩,
    ⟨(some 82), none, .nilck (.tmp 81)⟩,
    ⟨(some 83), none, .fld 0 (.tmp 82)⟩,
    ⟨(some 84), none, .load (.tmp 83)⟩,
    ⟨(some 85), none, .len (.tmp 84)⟩,
    ⟨(some 86), none, .bin .gtr 3 (.tmp 85) (.const (Value.int IntKind.i64 0)) 3 4⟩])
  (.cond (.tmp 86) .skip (.exit 0)))
  (.blk 1 (.seq (.reg [⟨(some 88), none, .mv (.tmp 10)⟩,
    ⟨(some 89), none, .call (.func 44) [(.tmp 88)]⟩,
    ⟨(some 90), none, .call (.func 43) [(.tmp 89)]⟩,
    ⟨(some 87), none, .mv (.tmp 90)⟩,
    ⟨(some 91), none, .ext (.tmp 87) 0⟩,
    ⟨(some 92), none, .ext (.tmp 87) 1⟩,
    ⟨(some 11), none, .alloc [Value.string { data := #[] }, Value.string { data := #[] }, Value.string { data := #[] }, Value.int IntKind.i64 0, Value.int IntKind.i64 0, Value.int IntKind.i64 0, Value.int IntKind.i64 0, Value.string { data := #[] }]⟩,
    ⟨none, none, .store 8 (.tmp 11) (.tmp 91)⟩,
    ⟨(some 12), none, .mv (.tmp 92)⟩])
  (.reg [⟨(some 93), none, .fld 5 (.tmp 7)⟩,
    ⟨(some 94), none, .load (.tmp 93)⟩,
    ⟨(some 95), none, .loadA 8 (.tmp 11)⟩,
    ⟨(some 96), none, .bls 8 [Value.string { data := #[] }, Value.string { data := #[] }, Value.string { data := #[] }, Value.int IntKind.i64 0, Value.int IntKind.i64 0, Value.int IntKind.i64 0, Value.int IntKind.i64 0, Value.string { data := #[] }] 1 [(0, (.tmp 95))]⟩,
    ⟨(some 97), none, .app 8 96 (.tmp 94) (.tmp 96)⟩,
    ⟨(some 98), none, .fld 5 (.tmp 7)⟩,
    ⟨none, none, .store 1 (.tmp 98) (.tmp 97)⟩])))))))
  (.seq (.blk 2 (.loop (.seq (.seq (.reg [⟨(some 99), none, .mv (.tmp 6)⟩,
    ⟨(some 100), none, .nilck (.tmp 99)⟩,
    ⟨(some 101), none, .fld 0 (.tmp 100)⟩,
    ⟨(some 102), none, .load (.tmp 101)⟩,
    ⟨(some 103), none, .len (.tmp 102)⟩,
    ⟨(some 104), none, .bin .gtr 3 (.tmp 103) (.const (Value.int IntKind.i64 0)) 3 4⟩])
  (.cond (.tmp 104) .skip (.exit 2)))
  (.blk 3 (.drw [⟨(some 105), none, .fld 21 (.tmp 7)⟩,
    ⟨(some 106), none, .load (.tmp 105)⟩,
    ⟨(some 107), none, .mv (.tmp 6)⟩,
    ⟨(some 108), none, .call (.func 45) [(.tmp 107)]⟩,
    ⟨(some 109), none, .bls 2 [Value.string { data := #[] }, Value.slice none 0 0] 1 [(0, (.tmp 108))]⟩,
    ⟨(some 110), none, .app 2 40 (.tmp 106) (.tmp 109)⟩,
    ⟨(some 111), none, .fld 21 (.tmp 7)⟩,
    ⟨none, none, .store 1 (.tmp 111) (.tmp 110)⟩] [[], [0], [], [2], [3], [1, 4, 3], [0, 1, 2, 3, 4, 5], [6, 5, 5, 0, 1, 2, 3, 4, 5]] [0, 1, 2, 3, 4, 5, 6, 7])))))
  (.seq (.seq (.reg [⟨(some 113), none, .loadA 22 (.tmp 7)⟩,
    ⟨(some 114), none, .call (.func 10) [(.tmp 113)]⟩,
    ⟨(some 112), none, .mv (.tmp 114)⟩,
    ⟨(some 115), none, .ext (.tmp 112) 0⟩,
    ⟨(some 116), none, .ext (.tmp 112) 1⟩,
    ⟨(some 13), none, .mv (.tmp 115)⟩,
    ⟨(some 14), none, .mv (.tmp 116)⟩])
  (.seq (.reg [⟨(some 117), none, .mv (.tmp 14)⟩,
    ⟨(some 118), none, .not (.tmp 117)⟩,
    ⟨(some 119), none, .mv (.tmp 118)⟩,
    ⟨(some 120), (some (119, false)), .mv (.tmp 13)⟩,
    ⟨(some 121), (some (119, false)), .mv (.tmp 0)⟩,
    ⟨(some 122), (some (119, false)), .call (.func 46) [(.tmp 120), (.tmp 121)]⟩,
    ⟨(some 123), (some (119, false)), .not (.tmp 122)⟩,
    ⟨(some 124), none, .pick (.tmp 119) (.const (Value.bool true)) (.tmp 123)⟩])
  (.cond (.tmp 124) (.seq (.reg [⟨(some 125), none, .bld [Value.int IntKind.i64 0, Value.int IntKind.i64 0, Value.int IntKind.i64 0, Value.int IntKind.i64 0, Value.int IntKind.i64 0, Value.slice none 0 0, Value.string { data := #[] }, Value.string { data := #[] }, Value.string { data := #[] }, Value.int IntKind.i64 0, Value.int IntKind.i64 0, Value.int IntKind.i64 0, Value.int IntKind.i64 0, Value.int IntKind.i64 0, Value.string { data := #[] }, Value.string { data := #[] }, Value.int IntKind.i64 0, Value.int IntKind.i64 0, Value.int IntKind.i64 0, Value.int IntKind.i64 0, Value.int IntKind.i64 0, Value.slice none 0 0] [(0, 1), (1, 1), (2, 1), (3, 1), (4, 1), (5, 1), (6, 1), (7, 1), (8, 1), (9, 1), (10, 1), (11, 1), (12, 1), (13, 7), (20, 1), (21, 1)] []⟩,
    ⟨none, none, .store 22 (.tmp 2) (.tmp 125)⟩,
    ⟨(some 3), none, .mv (.const (Value.bool false))⟩])
  .ret) .skip)))
  (.seq (.reg [⟨(some 126), none, .loadA 22 (.tmp 7)⟩,
    ⟨none, none, .store 22 (.tmp 2) (.tmp 126)⟩,
    ⟨(some 3), none, .mv (.const (Value.bool true))⟩])
  .ret)))))))))))))))), 127, [.agg 2 22, .tmp 3], false⟩
theorem c12 : cmpF Tryz.prog [(11, [0, 1, 2, 3, 4, 5, 6, 7, 8, 9, 10, 11, 12, 13, 14, 15, 16, 17], [0, 1, 2, 3, 4, 5, 6, 7, 8, 9, 10, 11, 12, 13, 14, 15, 16, 17], [0, 1, 2, 3, 4, 5, 6, 7, 8, 9, 10, 11, 12, 13, 14, 15, 16, 17]), (12, [0, 1, 2, 3, 4, 5, 6, 7, 8], [0, 1, 2, 3, 4, 5, 6, 7, 8], [0, 1, 2, 3, 4, 5, 6, 7, 8]), (18, [0, 1, 2, 3, 4, 5, 6, 7], [0, 1, 2, 3, 4, 5, 6, 7], [0, 1, 2, 3, 4, 5, 6, 7])] k12.pure 12 = some k12 := by kernel_rfl
-- joist/joistref20.Same
def k13 : KF := ⟨(.seq (.reg [⟨(some 2), none, .box (.tmp 0)⟩,
    ⟨(some 3), none, .box (.tmp 1)⟩,
    ⟨(some 4), none, .mv (.const (Value.bool false))⟩])
  (.seq (.seq (.reg [⟨(some 6), none, .fld 0 (.tmp 2)⟩,
    ⟨(some 7), none, .load (.tmp 6)⟩,
    ⟨(some 8), none, .fld 0 (.tmp 3)⟩,
    ⟨(some 9), none, .load (.tmp 8)⟩,
    ⟨(some 10), none, .bin .neq 3 (.tmp 7) (.tmp 9) 3 4⟩,
    ⟨(some 11), none, .mv (.tmp 10)⟩,
    ⟨(some 12), (some (11, false)), .fld 1 (.tmp 2)⟩,
    ⟨(some 13), (some (11, false)), .load (.tmp 12)⟩,
    ⟨(some 14), (some (11, false)), .fld 1 (.tmp 3)⟩,
    ⟨(some 15), (some (11, false)), .load (.tmp 14)⟩,
    ⟨(some 16), (some (11, false)), .bin .neq 3 (.tmp 13) (.tmp 15) 3 4⟩,
    ⟨(some 17), none, .pick (.tmp 11) (.const (Value.bool true)) (.tmp 16)⟩,
    ⟨(some 18), none, .mv (.tmp 17)⟩,
    ⟨(some 19), (some (18, false)), .fld 2 (.tmp 2)⟩,
    ⟨(some 20), (some (18, false)), .load (.tmp 19)⟩,
    ⟨(some 21), (some (18, false)), .fld 2 (.tmp 3)⟩,
    ⟨(some 22), (some (18, false)), .load (.tmp 21)⟩,
    ⟨(some 23), (some (18, false)), .bin .neq 3 (.tmp 20) (.tmp 22) 3 4⟩,
    ⟨(some 24), none, .pick (.tmp 18) (.const (Value.bool true)) (.tmp 23)⟩,
    ⟨(some 25), none, .mv (.tmp 24)⟩,
    ⟨(some 26), (some (25, false)), .fld 3 (.tmp 2)⟩,
    ⟨(some 27), (some (25, false)), .load (.tmp 26)⟩,
    ⟨(some 28), (some (25, false)), .fld 3 (.tmp 3)⟩,
    ⟨(some 29), (some (25, false)), .load (.tmp 28)⟩,
    ⟨(some 30), (some (25, false)), .bin .neq 3 (.tmp 27) (.tmp 29) 3 4⟩,
    ⟨(some 31), none, .pick (.tmp 25) (.const (Value.bool true)) (.tmp 30)⟩,
    ⟨(some 32), none, .mv (.tmp 31)⟩,
    ⟨(some 33), (some (32, false)), .fld 4 (.tmp 2)⟩,
    ⟨(some 34), (some (32, false)), .load (.tmp 33)⟩,
    ⟨(some 35), (some (32, false)), .fld 4 (.tmp 3)⟩,
    ⟨(some 36), (some (32, false)), .load (.tmp 35)⟩,
    ⟨(some 37), (some (32, false)), .bin .neq 3 (.tmp 34) (.tmp 36) 3 4⟩,
    ⟨(some 38), none, .pick (.tmp 32) (.const (Value.bool true)) (.tmp 37)⟩,
    ⟨(some 39), none, .mv (.tmp 38)⟩,
    ⟨(some 40), (some (39, false)), .fld 5 (.tmp 2)⟩,
    ⟨(some 41), (some (39, false)), .load (.tmp 40)⟩,
    ⟨(some 42), (some (39, false)), .fld 5 (.tmp 3)⟩,
    ⟨(some 43), (some (39, false)), .load (.tmp 42)⟩,
    ⟨(some 44), (some (39, false)), .call (.func 47) [(.tmp 41), (.tmp 43)]⟩,
    ⟨(some 45), (some (39, false)), .not (.tmp 44)⟩,
    ⟨(some 46), none, .pick (.tmp 39) (.const (Value.bool true)) (.tmp 45)⟩,
    ⟨(some 47), none, .mv (.tmp 46)⟩,
    ⟨(some 48), (some (47, false)), .fld 6 (.tmp 2)⟩,
    ⟨(some 49), (some (47, false)), .load (.tmp 48)⟩,
    ⟨(some 50), (some (47, false)), .fld 6 (.tmp 3)⟩,
    ⟨(some 51), (some (47, false)), .load (.tmp 50)⟩,
    ⟨(some 52), (some (47, false)), .bin .neq 9 (.tmp 49) (.tmp 51) 9 4⟩,
    ⟨(some 53), none, .pick (.tmp 47) (.const (Value.bool true)) (.tmp 52)⟩,
    ⟨(some 54), none, .mv (.tmp 53)⟩,
    ⟨(some 55), (some (54, false)), .fld 7 (.tmp 2)⟩,
    ⟨(some 56), (some (54, false)), .load (.tmp 55)⟩,
    ⟨(some 57), (some (54, false)), .fld 7 (.tmp 3)⟩,
    ⟨(some 58), (some (54, false)), .load (.tmp 57)⟩,
    ⟨(some 59), (some (54, false)), .bin .neq 9 (.tmp 56) (.tmp 58) 9 4⟩,
    ⟨(some 60), none, .pick (.tmp 54) (.const (Value.bool true)) (.tmp 59)⟩,
    ⟨(some 61), none, .mv (.tmp 60)⟩,
    ⟨(some 62), (some (61, false)), .fld 8 (.tmp 2)⟩,
    ⟨(some 63), (some (61, false)), .load (.tmp 62)⟩,
    ⟨(some 64), (some (61, false)), .fld 8 (.tmp 3)⟩,
    ⟨(some 65), (some (61, false)), .load (.tmp 64)⟩,
    ⟨(some 66), (some (61, false)), .bin .neq 9 (.tmp 63) (.tmp 65) 9 4⟩,
    ⟨(some 67), none, .pick (.tmp 61) (.const (Value.bool true)) (.tmp 66)⟩,
    ⟨(some 68), none, .mv (.tmp 67)⟩,
    ⟨(some 69), (some (68, false)), .fld 9 (.tmp 2)⟩,
    ⟨(some 70), (some (68, false)), .load (.tmp 69)⟩,
    ⟨(some 71), (some (68, false)), .fld 9 (.tmp 3)⟩,
    ⟨(some 72), (some (68, false)), .load (.tmp 71)⟩,
    ⟨(some 73), (some (68, false)), .bin .neq 3 (.tmp 70) (.tmp 72) 3 4⟩,
    ⟨(some 74), none, .pick (.tmp 68) (.const (Value.bool true)) (.tmp 73)⟩,
    ⟨(some 75), none, .mv (.tmp 74)⟩,
    ⟨(some 76), (some (75, false)), .fld 10 (.tmp 2)⟩,
    ⟨(some 77), (some (75, false)), .load (.tmp 76)⟩,
    ⟨(some 78), (some (75, false)), .fld 10 (.tmp 3)⟩,
    ⟨(some 79), (some (75, false)), .load (.tmp 78)⟩,
    ⟨(some 80), (some (75, false)), .bin .neq 3 (.tmp 77) (.tmp 79) 3 4⟩,
    ⟨(some 81), none, .pick (.tmp 75) (.const (Value.bool true)) (.tmp 80)⟩,
    ⟨(some 82), none, .mv (.tmp 81)⟩,
    ⟨(some 83), (some (82, false)), .fld 11 (.tmp 2)⟩,
    ⟨(some 84), (some (82, false)), .load (.tmp 83)⟩,
    ⟨(some 85), (some (82, false)), .fld 11 (.tmp 3)⟩,
    ⟨(some 86), (some (82, false)), .load (.tmp 85)⟩,
    ⟨(some 87), (some (82, false)), .bin .neq 3 (.tmp 84) (.tmp 86) 3 4⟩,
    ⟨(some 88), none, .pick (.tmp 82) (.const (Value.bool true)) (.tmp 87)⟩,
    ⟨(some 89), none, .mv (.tmp 88)⟩,
    ⟨(some 90), (some (89, false)), .fld 12 (.tmp 2)⟩,
    ⟨(some 91), (some (89, false)), .load (.tmp 90)⟩,
    ⟨(some 92), (some (89, false)), .fld 12 (.tmp 3)⟩,
    ⟨(some 93), (some (89, false)), .load (.tmp 92)⟩,
    ⟨(some 94), (some (89, false)), .bin .neq 3 (.tmp 91) (.tmp 93) 3 4⟩,
    ⟨(some 95), none, .pick (.tmp 89) (.const (Value.bool true)) (.tmp 94)⟩,
    ⟨(some 96), none, .mv (.tmp 95)⟩,
    ⟨(some 97), (some (96, false)), .fld 13 (.tmp 2)⟩,
    ⟨(some 98), (some (96, false)), .loadA 7 (.tmp 97)⟩,
    ⟨(some 99), (some (96, false)), .fld 13 (.tmp 3)⟩,
    ⟨(some 100), (some (96, false)), .loadA 7 (.tmp 99)⟩,
    ⟨(some 101), (some (96, false)), .bin .neq 24 (.tmp 98) (.tmp 100) 24 4⟩,
    ⟨(some 102), none, .pick (.tmp 96) (.const (Value.bool true)) (.tmp 101)⟩,
    ⟨(some 103), none, .mv (.tmp 102)⟩,
    ⟨(some 104), (some (103, false)), .fld 20 (.tmp 2)⟩,
    ⟨(some 105), (some (103, false)), .load (.tmp 104)⟩,
    ⟨(some 106), (some (103, false)), .fld 20 (.tmp 3)⟩,
    ⟨(some 107), (some (103, false)), .load (.tmp 106)⟩,
    ⟨(some 108), (some (103, false)), .bin .neq 25 (.tmp 105) (.tmp 107) 25 4⟩,
    ⟨(some 109), none, .pick (.tmp 103) (.const (Value.bool true)) (.tmp 108)⟩,
    ⟨(some 110), none, .mv (.tmp 109)⟩,
    ⟨(some 111), (some (110, false)), .fld 21 (.tmp 2)⟩,
    ⟨(some 112), (some (110, false)), .load (.tmp 111)⟩,
    ⟨(some 113), (some (110, false)), .len (.tmp 112)⟩,
    ⟨(some 114), (some (110, false)), .fld 21 (.tmp 3)⟩,
    ⟨(some 115), (some (110, false)), .load (.tmp 114)⟩,
    ⟨(some 116), (some (110, false)), .len (.tmp 115)⟩,
    ⟨(some 117), (some (110, false)), .bin .neq 3 (.tmp 113) (.tmp 116) 3 4⟩,
    ⟨(some 118), none, .pick (.tmp 110) (.const (Value.bool true)) (.tmp 117)⟩])
  (.cond (.tmp 118) (.seq (.reg [⟨(some 4), none, .mv (.const (Value.bool false))⟩])
  .ret) .skip))
  (.seq (.seq (.reg [⟨(some 5), none, .mv (.const (Value.int IntKind.i64 0))⟩])
  (.blk 0 (.loop (.seq (.seq (.reg [⟨(some 119), none, .mv (.tmp 5)⟩,
    ⟨(some 120), none, .fld 21 (.tmp 2)⟩,
    ⟨(some 121), none, .load (.tmp 120)⟩,
    ⟨(some 122), none, .len (.tmp 121)⟩,
    ⟨(some 123), none, .bin .lss 3 (.tmp 119) (.tmp 122) 3 4⟩])
  (.cond (.tmp 123) .skip (.exit 0)))
  (.seq (.blk 1 (.seq (.drw [⟨(some 126), none, .fld 21 (.tmp 2)⟩,
    ⟨(some 127), none, .load (.tmp 126)⟩,
    ⟨(some 128), none, .mv (.tmp 5)⟩,
    ⟨(some 129), none, .idx none 2 (.tmp 127) (.tmp 128)⟩,
    ⟨(some 130), none, .fld 0 (.tmp 129)⟩,
    ⟨(some 131), none, .load (.tmp 130)⟩,
    ⟨(some 132), none, .fld 21 (.tmp 2)⟩,
    ⟨(some 133), none, .load (.tmp 132)⟩,
    ⟨(some 134), none, .mv (.tmp 5)⟩,
    ⟨(some 135), none, .idx none 2 (.tmp 133) (.tmp 134)⟩,
    ⟨(some 136), none, .fld 1 (.tmp 135)⟩,
    ⟨(some 137), none, .load (.tmp 136)⟩,
    ⟨(some 138), none, .bld [Value.string { data := #[] }, Value.int IntKind.i64 0, Value.int IntKind.i64 0, Value.slice none 0 0, Value.slice none 0 0] [(0, 1), (1, 1), (2, 1), (3, 1), (4, 1)] [(0, (.tmp 131)), (3, (.tmp 137))]⟩,
    ⟨(some 139), none, .fld 21 (.tmp 3)⟩,
    ⟨(some 140), none, .load (.tmp 139)⟩,
    ⟨(some 141), none, .mv (.tmp 5)⟩,
    ⟨(some 142), none, .idx none 2 (.tmp 140) (.tmp 141)⟩,
    ⟨(some 143), none, .fld 0 (.tmp 142)⟩,
    ⟨(some 144), none, .load (.tmp 143)⟩,
    ⟨(some 145), none, .fld 21 (.tmp 3)⟩,
    ⟨(some 146), none, .load (.tmp 145)⟩,
    ⟨(some 147), none, .mv (.tmp 5)⟩,
    ⟨(some 148), none, .idx none 2 (.tmp 146) (.tmp 147)⟩,
    ⟨(some 149), none, .fld 1 (.tmp 148)⟩,
    ⟨(some 150), none, .load (.tmp 149)⟩,
    ⟨(some 151), none, .bld [Value.string { data := #[] }, Value.int IntKind.i64 0, Value.int IntKind.i64 0, Value.slice none 0 0, Value.slice none 0 0] [(0, 1), (1, 1), (2, 1), (3, 1), (4, 1)] [(0, (.tmp 144)), (3, (.tmp 150))]⟩,
    ⟨(some 152), none, .call (.func 48) [(.tmp 138), (.tmp 151)]⟩,
    ⟨(some 153), none, .not (.tmp 152)⟩] [[], [0], [], [1, 2], [3], [4], [], [6], [], [7, 8], [9], [10], [5, 11], [], [13], [], [14, 15], [16], [17], [], [19], [], [20, 21], [22], [23], [18, 24], [12, 25], [26]] [0, 1, 2, 3, 4, 5, 6, 7, 8, 9, 10, 11, 12, 13, 14, 15, 16, 17, 18, 19, 20, 21, 22, 23, 24, 25, 26, 27])
  (.cond (.tmp 153) (.seq (.reg [⟨(some 4), none, .mv (.const (Value.bool false))⟩])
  .ret) .skip)))
  (.reg [⟨(some 124), none, .mv (.tmp 5)⟩,
    ⟨(some 125), none, .bin .add 3 (.tmp 124) (.const (Value.int IntKind.i64 1)) 3 3⟩,
    ⟨(some 5), none, .mv (.tmp 125)⟩]))))))
  (.seq (.reg [⟨(some 4), none, .mv (.const (Value.bool true))⟩])
  .ret)))), 154, [.tmp 4], false⟩
theorem c13 : cmpF Tryz.prog [(6, [0, 1, 2, 3, 4, 5, 6, 7, 8, 9, 10, 11, 12, 13, 14, 15, 16, 17, 18, 19, 20, 21, 22, 23, 24, 25, 26, 27], [0, 1, 2, 3, 4, 5, 6, 7, 8, 9, 10, 11, 12, 13, 14, 15, 16, 17, 18, 19, 20, 21, 22, 23, 24, 25, 26, 27], [0, 1, 2, 3, 4, 5, 6, 7, 8, 9, 10, 11, 12, 13, 14, 15, 16, 17, 18, 19, 20, 21, 22, 23, 24, 25, 26, 27])] k13.pure 13 = some k13 := by kernel_rfl
-- joist/session.New
def k14 : KF := ⟨(.seq (.reg [⟨(some 0), none, .mv (.const (Value.pointer none))⟩])
  (.seq (.reg [⟨(some 1), none, .bld [Value.int IntKind.i64 0, Value.int IntKind.i64 0, Value.int IntKind.i64 0, Value.int IntKind.i64 0, Value.int IntKind.i64 0, Value.int IntKind.i64 0, Value.int IntKind.i64 0, Value.int IntKind.i64 0, Value.int IntKind.i64 0, Value.int IntKind.i64 0, Value.int IntKind.i64 0, Value.int IntKind.i64 0, Value.int IntKind.i64 0, Value.int IntKind.i64 0, Value.int IntKind.i64 0, Value.int IntKind.i64 0] [(0, 16)] []⟩,
    ⟨(some 2), none, .box (.tmp 1)⟩,
    ⟨(some 0), none, .mv (.tmp 2)⟩])
  .ret)), 3, [.tmp 0], false⟩
theorem c14 : cmpF Tryz.prog [] k14.pure 14 = some k14 := by kernel_rfl
-- (*joist/session.Book).Ask
def k15 : KF := ⟨(.seq (.reg [⟨(some 6), none, .mv (.const (Value.bool false))⟩,
    ⟨(some 7), none, .mv (.const (Value.int IntKind.i64 0))⟩])
  (.seq (.reg [⟨(some 9), none, .mv (.tmp 0)⟩,
    ⟨(some 10), none, .mv (.tmp 1)⟩,
    ⟨(some 11), none, .call (.func 49) [(.tmp 9), (.tmp 10)]⟩,
    ⟨(some 8), none, .mv (.tmp 11)⟩])
  (.seq (.blk 0 (.seq (.reg [⟨(some 13), none, .mv (.tmp 8)⟩,
    ⟨(some 14), none, .eqn false false (.tmp 13)⟩,
    ⟨(some 15), none, .mv (.tmp 14)⟩,
    ⟨(some 16), (some (15, false)), .mv (.tmp 2)⟩,
    ⟨(some 17), (some (15, false)), .bin .lss 3 (.tmp 16) (.const (Value.int IntKind.i64 1)) 3 4⟩,
    ⟨(some 18), none, .pick (.tmp 15) (.const (Value.bool true)) (.tmp 17)⟩,
    ⟨(some 19), none, .mv (.tmp 18)⟩,
    ⟨(some 20), (some (19, false)), .mv (.tmp 2)⟩,
    ⟨(some 21), (some (19, false)), .bin .gtr 3 (.tmp 20) (.const (Value.int IntKind.i64 1099511627776)) 3 4⟩,
    ⟨(some 22), none, .pick (.tmp 19) (.const (Value.bool true)) (.tmp 21)⟩,
    ⟨(some 12), none, .mv (.tmp 22)⟩])
  (.cond (.tmp 12) (.seq (.reg [⟨(some 6), none, .mv (.const (Value.bool false))⟩,
    ⟨(some 7), none, .mv (.const (Value.int IntKind.i64 10))⟩])
  .ret) (.seq (.reg [⟨(some 24), none, .mv (.tmp 2)⟩,
    ⟨(some 25), none, .mv (.tmp 8)⟩,
    ⟨(some 26), none, .nilck (.tmp 25)⟩,
    ⟨(some 27), none, .fld 0 (.tmp 26)⟩,
    ⟨(some 28), none, .load (.tmp 27)⟩,
    ⟨(some 29), none, .bin .gtr 3 (.tmp 24) (.tmp 28) 3 4⟩,
    ⟨(some 23), none, .mv (.tmp 29)⟩])
  (.cond (.tmp 23) (.seq (.reg [⟨(some 6), none, .mv (.const (Value.bool true))⟩,
    ⟨(some 7), none, .mv (.const (Value.int IntKind.i64 0))⟩])
  .ret) (.seq (.reg [⟨(some 31), none, .mv (.tmp 2)⟩,
    ⟨(some 32), none, .mv (.tmp 8)⟩,
    ⟨(some 33), none, .nilck (.tmp 32)⟩,
    ⟨(some 34), none, .fld 0 (.tmp 33)⟩,
    ⟨(some 35), none, .load (.tmp 34)⟩,
    ⟨(some 36), none, .bin .eql 3 (.tmp 31) (.tmp 35) 3 4⟩,
    ⟨(some 30), none, .mv (.tmp 36)⟩])
  (.cond (.tmp 30) (.seq (.drw [⟨(some 37), none, .mv (.tmp 8)⟩,
    ⟨(some 38), none, .nilck (.tmp 37)⟩,
    ⟨(some 39), none, .fld 1 (.tmp 38)⟩,
    ⟨(some 40), none, .load (.tmp 39)⟩,
    ⟨(some 6), none, .mv (.const (Value.bool false))⟩,
    ⟨(some 7), none, .mv (.tmp 40)⟩] [[], [0], [1], [2], [], [3, 4, 0, 1, 2, 3, 4]] [0, 1, 2, 3, 4, 5])
  .ret) .skip)))))))
  (.seq (.reg [⟨(some 6), none, .mv (.const (Value.bool false))⟩,
    ⟨(some 7), none, .mv (.const (Value.int IntKind.i64 19))⟩])
  .ret)))), 41, [.tmp 6, .tmp 7], false⟩
theorem c15 : cmpF Tryz.prog [(7, [0, 1, 2, 3, 4, 5], [4, 0, 1, 2, 3, 5], [0, 1, 2, 3, 4, 5])] k15.pure 15 = some k15 := by kernel_rfl
-- (*joist/session.Book).Keep
def k17 : KF := ⟨(.seq (.reg [⟨(some 8), none, .mv (.const (Value.bool false))⟩])
  (.seq (.reg [⟨(some 12), none, .mv (.tmp 0)⟩,
    ⟨(some 13), none, .mv (.tmp 1)⟩,
    ⟨(some 14), none, .mv (.tmp 2)⟩,
    ⟨(some 15), none, .call (.func 15) [(.tmp 12), (.tmp 13), (.tmp 14)]⟩,
    ⟨(some 11), none, .mv (.tmp 15)⟩,
    ⟨(some 16), none, .ext (.tmp 11) 0⟩,
    ⟨(some 17), none, .ext (.tmp 11) 1⟩,
    ⟨(some 9), none, .mv (.tmp 16)⟩,
    ⟨(some 10), none, .mv (.tmp 17)⟩])
  (.seq (.seq (.reg [⟨(some 18), none, .mv (.tmp 9)⟩])
  (.cond (.tmp 18) (.reg [⟨(some 19), none, .mv (.tmp 0)⟩,
    ⟨(some 20), none, .mv (.tmp 1)⟩,
    ⟨(some 21), none, .call (.func 49) [(.tmp 19), (.tmp 20)]⟩,
    ⟨(some 22), none, .mv (.tmp 2)⟩,
    ⟨(some 23), none, .mv (.tmp 3)⟩,
    ⟨(some 24), none, .bld [Value.int IntKind.i64 0, Value.int IntKind.i64 0] [(0, 1), (1, 1)] [(0, (.tmp 22)), (1, (.tmp 23))]⟩,
    ⟨(some 25), none, .nilck (.tmp 21)⟩,
    ⟨none, none, .store 2 (.tmp 25) (.tmp 24)⟩]) .skip))
  (.seq (.reg [⟨(some 26), none, .mv (.tmp 9)⟩,
    ⟨(some 8), none, .mv (.tmp 26)⟩])
  .ret)))), 27, [.tmp 8], false⟩
theorem c17 : cmpF Tryz.prog [] k17.pure 17 = some k17 := by kernel_rfl
-- (*joist/session.Book).Last
def k18 : KF := ⟨(.seq (.reg [⟨(some 4), none, .mv (.const (Value.int IntKind.i64 0))⟩])
  (.seq (.reg [⟨(some 6), none, .mv (.tmp 0)⟩,
    ⟨(some 7), none, .mv (.tmp 1)⟩,
    ⟨(some 8), none, .call (.func 49) [(.tmp 6), (.tmp 7)]⟩,
    ⟨(some 5), none, .mv (.tmp 8)⟩])
  (.seq (.seq (.reg [⟨(some 9), none, .mv (.tmp 5)⟩,
    ⟨(some 10), none, .eqn false false (.tmp 9)⟩])
  (.cond (.tmp 10) (.seq (.reg [⟨(some 4), none, .mv (.const (Value.int IntKind.i64 0))⟩])
  .ret) .skip))
  (.seq (.reg [⟨(some 11), none, .mv (.tmp 5)⟩,
    ⟨(some 12), none, .nilck (.tmp 11)⟩,
    ⟨(some 13), none, .fld 0 (.tmp 12)⟩,
    ⟨(some 14), none, .load (.tmp 13)⟩,
    ⟨(some 4), none, .mv (.tmp 14)⟩])
  .ret)))), 15, [.tmp 4], false⟩
theorem c18 : cmpF Tryz.prog [] k18.pure 18 = some k18 := by kernel_rfl
-- (*joist/session.packer).nums
def k26 : KF := ⟨(.seq (.reg [⟨(some 6), none, .mv (.tmp 1)⟩,
    ⟨(some 7), none, .len (.tmp 6)⟩,
    ⟨(some 8), none, .mv (.const (Value.int IntKind.i64 0))⟩])
  (.blk 0 (.loop (.seq (.reg [⟨(some 9), none, .bin .lss 3 (.tmp 8) (.tmp 7) 3 0⟩])
  (.seq (.cond (.tmp 9) .skip (.exit 0))
  (.seq (.blk 1 (.seq (.reg [⟨(some 10), none, .idx none 1 (.tmp 6) (.tmp 8)⟩,
    ⟨(some 11), none, .load (.tmp 10)⟩,
    ⟨(some 5), none, .mv (.tmp 11)⟩])
  (.drw [⟨(some 12), none, .mv (.tmp 0)⟩,
    ⟨(some 13), none, .mv (.tmp 0)⟩,
    ⟨(some 14), none, .nilck (.tmp 13)⟩,
    ⟨(some 15), none, .fld 0 (.tmp 14)⟩,
    ⟨(some 16), none, .load (.tmp 15)⟩,
    ⟨(some 17), none, .mv (.tmp 5)⟩,
    ⟨(some 18), none, .call (.func 65) [(.tmp 17)]⟩,
    ⟨(some 19), none, .bls 1 [Value.slice none 0 0] 1 [(0, (.tmp 18))]⟩,
    ⟨(some 20), none, .app 1 24 (.tmp 16) (.tmp 19)⟩,
    ⟨(some 21), none, .nilck (.tmp 12)⟩,
    ⟨(some 22), none, .fld 0 (.tmp 21)⟩,
    ⟨none, none, .store 1 (.tmp 22) (.tmp 20)⟩] [[], [], [1], [2], [3], [], [5], [6], [4, 7, 6], [0, 0, 1, 2, 3, 4, 5, 6, 7, 8], [9, 0, 1, 2, 3, 4, 5, 6, 7, 8], [10, 8, 8, 0, 1, 2, 3, 4, 5, 6, 7, 8]] [0, 1, 2, 3, 4, 5, 6, 7, 8, 9, 10, 11])))
  (.reg [⟨(some 23), none, .bin .add 3 (.tmp 8) (.const (Value.int IntKind.i64 1)) 3 3⟩,
    ⟨(some 8), none, .mv (.tmp 23)⟩]))))))), 24, [], false⟩
theorem c26 : cmpF Tryz.prog [(3, [0, 1, 2, 3, 4, 5, 6, 7, 8, 9, 10, 11], [0, 1, 2, 3, 4, 5, 6, 7, 8, 9, 10, 11], [0, 1, 2, 3, 4, 5, 6, 7, 8, 9, 10, 11])] k26.pure 26 = some k26 := by kernel_rfl
-- (*joist/session.packer).texts
def k27 : KF := ⟨(.seq (.reg [⟨(some 6), none, .mv (.tmp 1)⟩,
    ⟨(some 7), none, .len (.tmp 6)⟩,
    ⟨(some 8), none, .mv (.const (Value.int IntKind.i64 0))⟩])
  (.blk 0 (.loop (.seq (.reg [⟨(some 9), none, .bin .lss 3 (.tmp 8) (.tmp 7) 3 0⟩])
  (.seq (.cond (.tmp 9) .skip (.exit 0))
  (.seq (.blk 1 (.seq (.reg [⟨(some 10), none, .idx none 1 (.tmp 6) (.tmp 8)⟩,
    ⟨(some 11), none, .load (.tmp 10)⟩,
    ⟨(some 5), none, .mv (.tmp 11)⟩])
  (.reg [⟨(some 12), none, .mv (.tmp 0)⟩,
    ⟨(some 13), none, .mv (.tmp 0)⟩,
    ⟨(some 14), none, .nilck (.tmp 13)⟩,
    ⟨(some 15), none, .fld 0 (.tmp 14)⟩,
    ⟨(some 16), none, .load (.tmp 15)⟩,
    ⟨(some 17), none, .mv (.tmp 5)⟩,
    ⟨(some 18), none, .toB (.tmp 17)⟩,
    ⟨(some 19), none, .bls 1 [Value.slice none 0 0] 1 [(0, (.tmp 18))]⟩,
    ⟨(some 20), none, .app 1 24 (.tmp 16) (.tmp 19)⟩,
    ⟨(some 21), none, .nilck (.tmp 12)⟩,
    ⟨(some 22), none, .fld 0 (.tmp 21)⟩,
    ⟨none, none, .store 1 (.tmp 22) (.tmp 20)⟩])))
  (.reg [⟨(some 23), none, .bin .add 3 (.tmp 8) (.const (Value.int IntKind.i64 1)) 3 3⟩,
    ⟨(some 8), none, .mv (.tmp 23)⟩]))))))), 24, [], false⟩
theorem c27 : cmpF Tryz.prog [] k27.pure 27 = some k27 := by kernel_rfl
-- (*joist/session.packer).cells
def k28 : KF := ⟨(.seq (.reg [⟨(some 9), none, .bld [Value.slice none 0 0] [(0, 1)] []⟩,
    ⟨(some 10), none, .box (.tmp 9)⟩,
    ⟨(some 4), none, .mv (.tmp 10)⟩])
  (.seq (.seq (.reg [⟨(some 11), none, .mv (.tmp 1)⟩,
    ⟨(some 12), none, .len (.tmp 11)⟩,
    ⟨(some 13), none, .mv (.const (Value.int IntKind.i64 0))⟩])
  (.blk 0 (.loop (.seq (.reg [⟨(some 14), none, .bin .lss 3 (.tmp 13) (.tmp 12) 3 0⟩])
  (.seq (.cond (.tmp 14) .skip (.exit 0))
  (.seq (.blk 1 (.seq (.reg [⟨(some 15), none, .idx none 8 (.tmp 11) (.tmp 13)⟩,
    ⟨(some 16), none, .loadA 8 (.tmp 15)⟩,
    ⟨(some 6), none, .alloc [Value.string { data := #[] }, Value.string { data := #[] }, Value.string { data := #[] }, Value.int IntKind.i64 0, Value.int IntKind.i64 0, Value.int IntKind.i64 0, Value.int IntKind.i64 0, Value.string { data := #[] }]⟩,
    ⟨none, none, .store 8 (.tmp 6) (.tmp 16)⟩])
  (.seq (.reg [⟨(some 18), none, .loadA 8 (.tmp 6)⟩,
    ⟨(some 19), none, .call (.func 66) [(.tmp 18)]⟩,
    ⟨(some 17), none, .mv (.tmp 19)⟩,
    ⟨(some 20), none, .ext (.tmp 17) 0⟩,
    ⟨(some 21), none, .ext (.tmp 17) 1⟩,
    ⟨(some 7), none, .mv (.tmp 20)⟩,
    ⟨(some 8), none, .mv (.tmp 21)⟩])
  (.reg [⟨(some 22), none, .mv (.tmp 4)⟩,
    ⟨(some 23), none, .mv (.tmp 4)⟩,
    ⟨(some 24), none, .nilck (.tmp 23)⟩,
    ⟨(some 25), none, .fld 0 (.tmp 24)⟩,
    ⟨(some 26), none, .load (.tmp 25)⟩,
    ⟨(some 27), none, .mv (.tmp 7)⟩,
    ⟨(some 28), none, .bls 1 [Value.slice none 0 0] 1 [(0, (.tmp 27))]⟩,
    ⟨(some 29), none, .app 1 24 (.tmp 26) (.tmp 28)⟩,
    ⟨(some 30), none, .nilck (.tmp 22)⟩,
    ⟨(some 31), none, .fld 0 (.tmp 30)⟩,
    ⟨none, none, .store 1 (.tmp 31) (.tmp 29)⟩]))))
  (.reg [⟨(some 32), none, .bin .add 3 (.tmp 13) (.const (Value.int IntKind.i64 1)) 3 3⟩,
    ⟨(some 13), none, .mv (.tmp 32)⟩])))))))
  (.reg [⟨(some 33), none, .mv (.tmp 0)⟩,
    ⟨(some 34), none, .mv (.tmp 4)⟩,
    ⟨(some 35), none, .call (.func 29) [(.tmp 33), (.tmp 34)]⟩]))), 36, [], false⟩
theorem c28 : cmpF Tryz.prog [] k28.pure 28 = some k28 := by kernel_rfl
-- (*joist/session.packer).list
def k29 : KF := ⟨(.drw [⟨(some 4), none, .mv (.tmp 0)⟩,
    ⟨(some 5), none, .mv (.tmp 0)⟩,
    ⟨(some 6), none, .nilck (.tmp 5)⟩,
    ⟨(some 7), none, .fld 0 (.tmp 6)⟩,
    ⟨(some 8), none, .load (.tmp 7)⟩,
    ⟨(some 9), none, .mv (.tmp 1)⟩,
    ⟨(some 10), none, .nilck (.tmp 9)⟩,
    ⟨(some 11), none, .fld 0 (.tmp 10)⟩,
    ⟨(some 12), none, .load (.tmp 11)⟩,
    ⟨(some 13), none, .call (.func 30) [(.tmp 12)]⟩,
    ⟨(some 14), none, .bls 1 [Value.slice none 0 0] 1 [(0, (.tmp 13))]⟩,
    ⟨(some 15), none, .app 1 24 (.tmp 8) (.tmp 14)⟩,
    ⟨(some 16), none, .nilck (.tmp 4)⟩,
    ⟨(some 17), none, .fld 0 (.tmp 16)⟩,
    ⟨none, none, .store 1 (.tmp 17) (.tmp 15)⟩] [[], [], [1], [2], [3], [], [5], [6], [7], [8], [9], [4, 10, 9], [0, 0, 1, 2, 3, 4, 5, 6, 7, 8, 9, 10, 11], [12, 0, 1, 2, 3, 4, 5, 6, 7, 8, 9, 10, 11], [13, 11, 11, 0, 1, 2, 3, 4, 5, 6, 7, 8, 9, 10, 11]] [0, 1, 2, 3, 4, 5, 6, 7, 8, 9, 10, 11, 12, 13, 14]), 18, [], false⟩
theorem c29 : cmpF Tryz.prog [(0, [0, 1, 2, 3, 4, 5, 6, 7, 8, 9, 10, 11, 12, 13, 14], [0, 1, 2, 3, 4, 5, 6, 7, 8, 9, 10, 11, 12, 13, 14], [0, 1, 2, 3, 4, 5, 6, 7, 8, 9, 10, 11, 12, 13, 14])] k29.pure 29 = some k29 := by kernel_rfl
-- joist/codec.List
def k30 : KF := ⟨(.seq (.reg [⟨(some 2), none, .mv (.const (Value.slice none 0 0))⟩])
  (.seq (.reg [⟨(some 6), none, .mv (.tmp 0)⟩,
    ⟨(some 7), none, .len (.tmp 6)⟩,
    ⟨(some 8), none, .call (.func 65) [(.tmp 7)]⟩,
    ⟨(some 3), none, .mv (.tmp 8)⟩])
  (.seq (.seq (.reg [⟨(some 9), none, .mv (.tmp 0)⟩,
    ⟨(some 10), none, .len (.tmp 9)⟩,
    ⟨(some 11), none, .mv (.const (Value.int IntKind.i64 0))⟩])
  (.blk 0 (.loop (.seq (.reg [⟨(some 12), none, .bin .lss 3 (.tmp 11) (.tmp 10) 3 0⟩])
  (.seq (.cond (.tmp 12) .skip (.exit 0))
  (.seq (.blk 1 (.seq (.reg [⟨(some 13), none, .idx none 1 (.tmp 9) (.tmp 11)⟩,
    ⟨(some 14), none, .load (.tmp 13)⟩,
    ⟨(some 5), none, .mv (.tmp 14)⟩])
  (.reg [⟨(some 15), none, .mv (.tmp 3)⟩,
    ⟨(some 16), none, .mv (.tmp 5)⟩,
    ⟨(some 17), none, .len (.tmp 16)⟩,
    ⟨(some 18), none, .call (.func 65) [(.tmp 17)]⟩,
    ⟨(some 19), none, .mv (.tmp 5)⟩,
    ⟨(some 20), none, .bls 1 [Value.slice none 0 0] 3 [(0, (.tmp 15)), (1, (.tmp 18)), (2, (.tmp 19))]⟩,
    ⟨(some 21), none, .call (.func 67) [(.tmp 20)]⟩,
    ⟨(some 3), none, .mv (.tmp 21)⟩])))
  (.reg [⟨(some 22), none, .bin .add 3 (.tmp 11) (.const (Value.int IntKind.i64 1)) 3 3⟩,
    ⟨(some 11), none, .mv (.tmp 22)⟩])))))))
  (.seq (.reg [⟨(some 23), none, .mv (.tmp 3)⟩,
    ⟨(some 2), none, .mv (.tmp 23)⟩])
  .ret)))), 24, [.tmp 2], false⟩
theorem c30 : cmpF Tryz.prog [] k30.pure 30 = some k30 := by kernel_rfl
-- joist/session.numbers
def k33 : KF := ⟨(.seq (.reg [⟨(some 1), none, .box (.tmp 0)⟩,
    ⟨(some 2), none, .mv (.const (Value.bool false))⟩])
  (.seq (.seq (.reg [⟨(some 5), none, .fld 2 (.tmp 1)⟩,
    ⟨(some 6), none, .load (.tmp 5)⟩,
    ⟨(some 7), none, .fld 3 (.tmp 1)⟩,
    ⟨(some 8), none, .load (.tmp 7)⟩,
    ⟨(some 9), none, .fld 4 (.tmp 1)⟩,
    ⟨(some 10), none, .load (.tmp 9)⟩,
    ⟨(some 11), none, .fld 12 (.tmp 1)⟩,
    ⟨(some 12), none, .load (.tmp 11)⟩,
    ⟨(some 13), none, .bls 1 [Value.int IntKind.i64 0] 4 [(0, (.tmp 6)), (1, (.tmp 8)), (2, (.tmp 10)), (3, (.tmp 12))]⟩,
    ⟨(some 14), none, .len (.tmp 13)⟩,
    ⟨(some 15), none, .mv (.const (Value.int IntKind.i64 0))⟩])
  (.blk 0 (.loop (.seq (.reg [⟨(some 16), none, .bin .lss 3 (.tmp 15) (.tmp 14) 3 0⟩])
  (.seq (.cond (.tmp 16) .skip (.exit 0))
  (.seq (.blk 1 (.seq (.reg [⟨(some 17), none, .idx none 1 (.tmp 13) (.tmp 15)⟩,
    ⟨(some 18), none, .load (.tmp 17)⟩,
    ⟨(some 4), none, .mv (.tmp 18)⟩])
  (.seq (.reg [⟨(some 19), none, .mv (.tmp 4)⟩,
    ⟨(some 20), none, .call (.func 70) [(.tmp 19), (.const (Value.int IntKind.i64 1099511627776))]⟩,
    ⟨(some 21), none, .not (.tmp 20)⟩])
  (.cond (.tmp 21) (.seq (.reg [⟨(some 2), none, .mv (.const (Value.bool false))⟩])
  .ret) .skip))))
  (.reg [⟨(some 22), none, .bin .add 3 (.tmp 15) (.const (Value.int IntKind.i64 1)) 3 3⟩,
    ⟨(some 15), none, .mv (.tmp 22)⟩])))))))
  (.seq (.reg [⟨(some 23), none, .fld 0 (.tmp 1)⟩,
    ⟨(some 24), none, .load (.tmp 23)⟩,
    ⟨(some 25), none, .bin .geq 3 (.tmp 24) (.const (Value.int IntKind.i64 1)) 3 4⟩,
    ⟨(some 26), none, .mv (.tmp 25)⟩,
    ⟨(some 27), (some (26, true)), .fld 0 (.tmp 1)⟩,
    ⟨(some 28), (some (26, true)), .load (.tmp 27)⟩,
    ⟨(some 29), (some (26, true)), .bin .leq 3 (.tmp 28) (.const (Value.int IntKind.i64 7)) 3 4⟩,
    ⟨(some 30), none, .pick (.tmp 26) (.tmp 29) (.const (Value.bool false))⟩,
    ⟨(some 31), none, .mv (.tmp 30)⟩,
    ⟨(some 32), (some (31, true)), .fld 1 (.tmp 1)⟩,
    ⟨(some 33), (some (31, true)), .load (.tmp 32)⟩,
    ⟨(some 34), (some (31, true)), .call (.func 70) [(.tmp 33), (.const (Value.int IntKind.i64 7))]⟩,
    ⟨(some 35), none, .pick (.tmp 31) (.tmp 34) (.const (Value.bool false))⟩,
    ⟨(some 36), none, .mv (.tmp 35)⟩,
    ⟨(some 37), (some (36, true)), .fld 9 (.tmp 1)⟩,
    ⟨(some 38), (some (36, true)), .load (.tmp 37)⟩,
    ⟨(some 39), (some (36, true)), .call (.func 70) [(.tmp 38), (.const (Value.int IntKind.i64 2))]⟩,
    ⟨(some 40), none, .pick (.tmp 36) (.tmp 39) (.const (Value.bool false))⟩,
    ⟨(some 41), none, .mv (.tmp 40)⟩,
    ⟨(some 42), (some (41, true)), .fld 10 (.tmp 1)⟩,
    ⟨(some 43), (some (41, true)), .load (.tmp 42)⟩,
    ⟨(some 44), (some (41, true)), .call (.func 70) [(.tmp 43), (.const (Value.int IntKind.i64 2))]⟩,
    ⟨(some 45), none, .pick (.tmp 41) (.tmp 44) (.const (Value.bool false))⟩,
    ⟨(some 46), none, .mv (.tmp 45)⟩,
    ⟨(some 47), (some (46, true)), .fld 11 (.tmp 1)⟩,
    ⟨(some 48), (some (46, true)), .load (.tmp 47)⟩,
    ⟨(some 49), (some (46, true)), .call (.func 70) [(.tmp 48), (.const (Value.int IntKind.i64 4))]⟩,
    ⟨(some 50), none, .pick (.tmp 46) (.tmp 49) (.const (Value.bool false))⟩,
    ⟨(some 51), none, .mv (.tmp 50)⟩,
    ⟨(some 52), (some (51, true)), .fld 20 (.tmp 1)⟩,
    ⟨(some 53), (some (51, true)), .load (.tmp 52)⟩,
    ⟨(some 54), (some (51, true)), .bin .eql 25 (.tmp 53) (.const (Value.int IntKind.i64 0)) 25 4⟩,
    ⟨(some 55), (some (51, true)), .mv (.tmp 54)⟩,
    ⟨(some 56), (some (55, false)), .fld 20 (.tmp 1)⟩,
    ⟨(some 57), (some (55, false)), .load (.tmp 56)⟩,
    ⟨(some 58), (some (55, false)), .bin .eql 25 (.tmp 57) (.const (Value.int IntKind.i64 17)) 25 4⟩,
    ⟨(some 59), (some (51, true)), .pick (.tmp 55) (.const (Value.bool true)) (.tmp 58)⟩,
    ⟨(some 60), none, .pick (.tmp 51) (.tmp 59) (.const (Value.bool false))⟩,
    ⟨(some 2), none, .mv (.tmp 60)⟩])
  .ret))), 61, [.tmp 2], false⟩
theorem c33 : cmpF Tryz.prog [] k33.pure 33 = some k33 := by kernel_rfl
-- joist/session.texts
def k34 : KF := ⟨(.seq (.reg [⟨(some 1), none, .box (.tmp 0)⟩,
    ⟨(some 2), none, .mv (.const (Value.bool false))⟩])
  (.seq (.reg [⟨(some 3), none, .fld 6 (.tmp 1)⟩,
    ⟨(some 4), none, .load (.tmp 3)⟩,
    ⟨(some 5), none, .bin .eql 9 (.tmp 4) (.const (Value.string { data := #[] })) 9 4⟩,
    ⟨(some 6), none, .mv (.tmp 5)⟩,
    ⟨(some 7), (some (6, false)), .fld 6 (.tmp 1)⟩,
    ⟨(some 8), (some (6, false)), .load (.tmp 7)⟩,
    ⟨(some 9), (some (6, false)), .call (.func 71) [(.tmp 8)]⟩,
    ⟨(some 10), none, .pick (.tmp 6) (.const (Value.bool true)) (.tmp 9)⟩,
    ⟨(some 11), none, .mv (.tmp 10)⟩,
    ⟨(some 12), (some (11, true)), .fld 7 (.tmp 1)⟩,
    ⟨(some 13), (some (11, true)), .load (.tmp 12)⟩,
    ⟨(some 14), (some (11, true)), .lenS (.tmp 13)⟩,
    ⟨(some 15), (some (11, true)), .bin .leq 3 (.tmp 14) (.const (Value.int IntKind.i64 12)) 3 4⟩,
    ⟨(some 16), none, .pick (.tmp 11) (.tmp 15) (.const (Value.bool false))⟩,
    ⟨(some 17), none, .mv (.tmp 16)⟩,
    ⟨(some 18), (some (17, true)), .fld 8 (.tmp 1)⟩,
    ⟨(some 19), (some (17, true)), .load (.tmp 18)⟩,
    ⟨(some 20), (some (17, true)), .lenS (.tmp 19)⟩,
    ⟨(some 21), (some (17, true)), .bin .leq 3 (.tmp 20) (.const (Value.int IntKind.i64 16)) 3 4⟩,
    ⟨(some 22), none, .pick (.tmp 17) (.tmp 21) (.const (Value.bool false))⟩,
    ⟨(some 2), none, .mv (.tmp 22)⟩])
  .ret)), 23, [.tmp 2], false⟩
theorem c34 : cmpF Tryz.prog [] k34.pure 34 = some k34 := by kernel_rfl
-- slices.ContainsFunc[[]joist/api.Cell,joist/api.Cell]
def k35 : KF := ⟨(.seq (.reg [⟨(some 4), none, .mv (.const (Value.bool false))⟩])
  (.seq (.reg [⟨(some 5), none, .mv (.tmp 0)⟩,
    ⟨(some 6), none, .mv (.tmp 1)⟩,
    ⟨(some 7), none, .call (.func 72) [(.tmp 5), (.tmp 6)]⟩,
    ⟨(some 8), none, .bin .geq 3 (.tmp 7) (.const (Value.int IntKind.i64 0)) 3 4⟩,
    ⟨(some 4), none, .mv (.tmp 8)⟩])
  .ret)), 9, [.tmp 4], false⟩
theorem c35 : cmpF Tryz.prog [] k35.pure 35 = some k35 := by kernel_rfl
-- slices.ContainsFunc[[]joist/api.Layouted,joist/api.Layouted]
def k36 : KF := ⟨(.seq (.reg [⟨(some 4), none, .mv (.const (Value.bool false))⟩])
  (.seq (.reg [⟨(some 5), none, .mv (.tmp 0)⟩,
    ⟨(some 6), none, .mv (.tmp 1)⟩,
    ⟨(some 7), none, .call (.func 73) [(.tmp 5), (.tmp 6)]⟩,
    ⟨(some 8), none, .bin .geq 3 (.tmp 7) (.const (Value.int IntKind.i64 0)) 3 4⟩,
    ⟨(some 4), none, .mv (.tmp 8)⟩])
  .ret)), 9, [.tmp 4], false⟩
theorem c36 : cmpF Tryz.prog [] k36.pure 36 = some k36 := by kernel_rfl
-- joist/session.layouted
def k37 : KF := ⟨(.seq (.reg [⟨(some 1), none, .box (.tmp 0)⟩,
    ⟨(some 2), none, .mv (.const (Value.bool false))⟩])
  (.seq (.reg [⟨(some 3), none, .mv (.func 74)⟩])
  (.seq (.reg [⟨(some 4), none, .fld 0 (.tmp 1)⟩,
    ⟨(some 5), none, .load (.tmp 4)⟩,
    ⟨(some 6), none, .call (.func 71) [(.tmp 5)]⟩,
    ⟨(some 7), none, .not (.tmp 6)⟩,
    ⟨(some 8), none, .mv (.tmp 7)⟩,
    ⟨(some 9), (some (8, false)), .fld 1 (.tmp 1)⟩,
    ⟨(some 10), (some (8, false)), .load (.tmp 9)⟩,
    ⟨(some 11), (some (8, false)), .len (.tmp 10)⟩,
    ⟨(some 12), (some (8, false)), .bin .lss 3 (.tmp 11) (.const (Value.int IntKind.i64 1)) 3 4⟩,
    ⟨(some 13), none, .pick (.tmp 8) (.const (Value.bool true)) (.tmp 12)⟩,
    ⟨(some 14), none, .mv (.tmp 13)⟩,
    ⟨(some 15), (some (14, false)), .fld 1 (.tmp 1)⟩,
    ⟨(some 16), (some (14, false)), .load (.tmp 15)⟩,
    ⟨(some 17), (some (14, false)), .len (.tmp 16)⟩,
    ⟨(some 18), (some (14, false)), .bin .gtr 3 (.tmp 17) (.const (Value.int IntKind.i64 2)) 3 4⟩,
    ⟨(some 19), none, .pick (.tmp 14) (.const (Value.bool true)) (.tmp 18)⟩,
    ⟨(some 20), none, .mv (.tmp 19)⟩,
    ⟨(some 21), (some (20, false)), .fld 1 (.tmp 1)⟩,
    ⟨(some 22), (some (20, false)), .load (.tmp 21)⟩,
    ⟨(some 23), (some (20, false)), .mv (.tmp 3)⟩,
    ⟨(some 24), (some (20, false)), .call (.func 75) [(.tmp 22), (.tmp 23)]⟩,
    ⟨(some 25), none, .pick (.tmp 20) (.const (Value.bool true)) (.tmp 24)⟩,
    ⟨(some 2), none, .mv (.tmp 25)⟩])
  .ret))), 26, [.tmp 2], false⟩
theorem c37 : cmpF Tryz.prog [] k37.pure 37 = some k37 := by kernel_rfl
-- joist/ddl.Formed
def k38 : KF := ⟨(.seq (.reg [⟨(some 1), none, .box (.tmp 0)⟩,
    ⟨(some 2), none, .mv (.const (Value.bool false))⟩])
  (.seq (.seq (.drw [⟨(some 3), none, .fld 0 (.tmp 1)⟩,
    ⟨(some 4), none, .load (.tmp 3)⟩,
    ⟨(some 5), none, .call (.func 76) [(.tmp 4), (.const (Value.int IntKind.i64 1)), (.const (Value.int IntKind.i64 5))]⟩,
    ⟨(some 6), none, .not (.tmp 5)⟩,
    ⟨(some 7), none, .mv (.tmp 6)⟩,
    ⟨(some 8), (some (7, false)), .fld 1 (.tmp 1)⟩,
    ⟨(some 9), (some (7, false)), .load (.tmp 8)⟩,
    ⟨(some 10), (some (7, false)), .call (.func 77) [(.tmp 9)]⟩,
    ⟨(some 11), (some (7, false)), .not (.tmp 10)⟩,
    ⟨(some 12), none, .pick (.tmp 7) (.const (Value.bool true)) (.tmp 11)⟩,
    ⟨(some 13), none, .mv (.tmp 12)⟩,
    ⟨(some 14), (some (13, false)), .fld 2 (.tmp 1)⟩,
    ⟨(some 15), (some (13, false)), .load (.tmp 14)⟩,
    ⟨(some 16), (some (13, false)), .lenS (.tmp 15)⟩,
    ⟨(some 17), (some (13, false)), .bin .gtr 3 (.tmp 16) (.const (Value.int IntKind.i64 12)) 3 4⟩,
    ⟨(some 18), none, .pick (.tmp 13) (.const (Value.bool true)) (.tmp 17)⟩,
    ⟨(some 19), none, .mv (.tmp 18)⟩,
    ⟨(some 20), (some (19, false)), .loadA 7 (.tmp 1)⟩,
    ⟨(some 21), (some (19, false)), .call (.func 78) [(.tmp 20)]⟩,
    ⟨(some 22), (some (19, false)), .loadA 7 (.tmp 1)⟩,
    ⟨(some 23), (some (19, false)), .bin .neq 24 (.tmp 21) (.tmp 22) 24 4⟩,
    ⟨(some 24), none, .pick (.tmp 19) (.const (Value.bool true)) (.tmp 23)⟩] [[], [0], [1], [2], [3, 2], [4], [5, 4], [6, 4, 4], [7, 4], [4, 8], [9, 7], [10], [11, 10], [12, 10], [13, 10], [10, 14], [15, 10], [16], [17, 16, 16], [16], [18, 19, 16], [16, 20]] [0, 1, 2, 3, 4, 5, 6, 7, 8, 9, 10, 11, 12, 13, 14, 15, 16, 17, 19, 18, 20, 21])
  (.cond (.tmp 24) (.seq (.reg [⟨(some 2), none, .mv (.const (Value.bool false))⟩])
  .ret) .skip))
  (.seq (.seq (.reg [⟨(some 25), none, .fld 0 (.tmp 1)⟩,
    ⟨(some 26), none, .load (.tmp 25)⟩])
  (.blk 0 (.seq (.reg [⟨(some 28), none, .bin .eql 3 (.tmp 26) (.const (Value.int IntKind.i64 1)) 3 4⟩,
    ⟨(some 27), none, .mv (.tmp 28)⟩])
  (.cond (.tmp 27) (.seq (.reg [⟨(some 29), none, .fld 4 (.tmp 1)⟩,
    ⟨(some 30), none, .load (.tmp 29)⟩,
    ⟨(some 31), none, .call (.func 76) [(.tmp 30), (.const (Value.int IntKind.i64 0)), (.const (Value.int IntKind.i64 2))]⟩,
    ⟨(some 32), none, .mv (.tmp 31)⟩,
    ⟨(some 33), (some (32, true)), .fld 5 (.tmp 1)⟩,
    ⟨(some 34), (some (32, true)), .load (.tmp 33)⟩,
    ⟨(some 35), (some (32, true)), .call (.func 76) [(.tmp 34), (.const (Value.int IntKind.i64 1)), (.const (Value.int IntKind.i64 8))]⟩,
    ⟨(some 36), none, .pick (.tmp 32) (.tmp 35) (.const (Value.bool false))⟩,
    ⟨(some 37), none, .mv (.tmp 36)⟩,
    ⟨(some 38), (some (37, true)), .fld 6 (.tmp 1)⟩,
    ⟨(some 39), (some (37, true)), .load (.tmp 38)⟩,
    ⟨(some 40), (some (37, true)), .call (.func 76) [(.tmp 39), (.const (Value.int IntKind.i64 0)), (.const (Value.int IntKind.i64 1099511627776))]⟩,
    ⟨(some 41), none, .pick (.tmp 37) (.tmp 40) (.const (Value.bool false))⟩,
    ⟨(some 2), none, .mv (.tmp 41)⟩])
  .ret) (.seq (.reg [⟨(some 43), none, .bin .eql 3 (.tmp 26) (.const (Value.int IntKind.i64 3)) 3 4⟩,
    ⟨(some 42), none, .mv (.tmp 43)⟩])
  (.cond (.tmp 42) (.seq (.reg [⟨(some 44), none, .fld 3 (.tmp 1)⟩,
    ⟨(some 45), none, .load (.tmp 44)⟩,
    ⟨(some 46), none, .call (.func 76) [(.tmp 45), (.const (Value.int IntKind.i64 1)), (.const (Value.int IntKind.i64 5))]⟩,
    ⟨(some 2), none, .mv (.tmp 46)⟩])
  .ret) (.seq (.reg [⟨(some 48), none, .bin .eql 3 (.tmp 26) (.const (Value.int IntKind.i64 5)) 3 4⟩,
    ⟨(some 47), none, .mv (.tmp 48)⟩])
  (.cond (.tmp 47) (.seq (.reg [⟨(some 49), none, .fld 4 (.tmp 1)⟩,
    ⟨(some 50), none, .load (.tmp 49)⟩,
    ⟨(some 51), none, .call (.func 76) [(.tmp 50), (.const (Value.int IntKind.i64 0)), (.const (Value.int IntKind.i64 2))]⟩,
    ⟨(some 2), none, .mv (.tmp 51)⟩])
  .ret) .skip))))))))
  (.seq (.reg [⟨(some 2), none, .mv (.const (Value.bool true))⟩])
  .ret)))), 52, [.tmp 2], false⟩
theorem c38 : cmpF Tryz.prog [(1, [0, 1, 2, 3, 4, 5, 6, 7, 8, 9, 10, 11, 12, 13, 14, 15, 16, 17, 18, 19, 20, 21], [0, 1, 2, 3, 4, 5, 6, 7, 8, 9, 10, 11, 12, 13, 14, 15, 16, 17, 18, 19, 20, 21], [0, 1, 2, 3, 4, 5, 6, 7, 8, 9, 10, 11, 12, 13, 14, 15, 16, 17, 19, 18, 20, 21])] k38.pure 38 = some k38 := by kernel_rfl
-- joist/codec.Parts
def k39 : KF := ⟨(.seq (.reg [⟨(some 2), none, .mv (.const (Value.slice none 0 0))⟩,
    ⟨(some 3), none, .mv (.const (Value.bool false))⟩])
  (.seq (.reg [⟨(some 12), none, .mv (.tmp 0)⟩,
    ⟨(some 13), none, .call (.func 79) [(.tmp 12)]⟩,
    ⟨(some 11), none, .mv (.tmp 13)⟩,
    ⟨(some 14), none, .ext (.tmp 11) 0⟩,
    ⟨(some 15), none, .ext (.tmp 11) 1⟩,
    ⟨(some 16), none, .ext (.tmp 11) 2⟩,
    ⟨(some 4), none, .mv (.tmp 14)⟩,
    ⟨(some 5), none, .mv (.tmp 15)⟩,
    ⟨(some 6), none, .mv (.tmp 16)⟩])
  (.seq (.seq (.reg [⟨(some 17), none, .mv (.tmp 6)⟩,
    ⟨(some 18), none, .not (.tmp 17)⟩])
  (.cond (.tmp 18) (.seq (.reg [⟨(some 2), none, .mv (.const (Value.slice none 0 0))⟩,
    ⟨(some 3), none, .mv (.const (Value.bool false))⟩])
  .ret) .skip))
  (.seq (.reg [⟨(some 7), none, .mv (.const (Value.slice none 0 0))⟩])
  (.seq (.blk 0 (.loop (.seq (.seq (.reg [⟨(some 19), none, .mv (.tmp 4)⟩,
    ⟨(some 20), none, .bin .gtr 3 (.tmp 19) (.const (Value.int IntKind.i64 0)) 3 4⟩])
  (.cond (.tmp 20) .skip (.exit 0)))
  (.seq (.blk 1 (.seq (.reg [⟨(some 24), none, .mv (.tmp 5)⟩,
    ⟨(some 25), none, .call (.func 79) [(.tmp 24)]⟩,
    ⟨(some 23), none, .mv (.tmp 25)⟩,
    ⟨(some 26), none, .ext (.tmp 23) 0⟩,
    ⟨(some 27), none, .ext (.tmp 23) 1⟩,
    ⟨(some 28), none, .ext (.tmp 23) 2⟩,
    ⟨(some 8), none, .mv (.tmp 26)⟩,
    ⟨(some 9), none, .mv (.tmp 27)⟩,
    ⟨(some 10), none, .mv (.tmp 28)⟩])
  (.seq (.seq (.reg [⟨(some 29), none, .mv (.tmp 10)⟩,
    ⟨(some 30), none, .not (.tmp 29)⟩,
    ⟨(some 31), none, .mv (.tmp 30)⟩,
    ⟨(some 32), (some (31, false)), .mv (.tmp 8)⟩,
    ⟨(some 33), (some (31, false)), .mv (.tmp 9)⟩,
    ⟨(some 34), (some (31, false)), .len (.tmp 33)⟩,
    ⟨(some 35), (some (31, false)), .bin .gtr 3 (.tmp 32) (.tmp 34) 3 4⟩,
    ⟨(some 36), none, .pick (.tmp 31) (.const (Value.bool true)) (.tmp 35)⟩])
  (.cond (.tmp 36) (.seq (.reg [⟨(some 2), none, .mv (.const (Value.slice none 0 0))⟩,
    ⟨(some 3), none, .mv (.const (Value.bool false))⟩])
  .ret) .skip))
  (.seq (.reg [⟨(some 37), none, .mv (.tmp 7)⟩,
    ⟨(some 38), none, .mv (.tmp 9)⟩,
    ⟨(some 39), none, .mv (.tmp 8)⟩,
    ⟨(some 40), none, .mv (.tmp 8)⟩,
    ⟨(some 41), none, .cut 1 (.tmp 38) none (some (.tmp 39)) (some (.tmp 40))⟩,
    ⟨(some 42), none, .bls 1 [Value.slice none 0 0] 1 [(0, (.tmp 41))]⟩,
    ⟨(some 43), none, .app 1 24 (.tmp 37) (.tmp 42)⟩,
    ⟨(some 7), none, .mv (.tmp 43)⟩])
  (.reg [⟨(some 44), none, .mv (.tmp 9)⟩,
    ⟨(some 45), none, .mv (.tmp 8)⟩,
    ⟨(some 46), none, .cut 1 (.tmp 44) (some (.tmp 45)) none none⟩,
    ⟨(some 5), none, .mv (.tmp 46)⟩])))))
  (.reg [⟨(some 21), none, .mv (.tmp 4)⟩,
    ⟨(some 22), none, .bin .sub 3 (.tmp 21) (.const (Value.int IntKind.i64 1)) 3 3⟩,
    ⟨(some 4), none, .mv (.tmp 22)⟩])))))
  (.seq (.seq (.reg [⟨(some 47), none, .mv (.tmp 5)⟩,
    ⟨(some 48), none, .len (.tmp 47)⟩,
    ⟨(some 49), none, .bin .gtr 3 (.tmp 48) (.const (Value.int IntKind.i64 0)) 3 4⟩])
  (.cond (.tmp 49) (.seq (.reg [⟨(some 2), none, .mv (.const (Value.slice none 0 0))⟩,
    ⟨(some 3), none, .mv (.const (Value.bool false))⟩])
  .ret) .skip))
  (.seq (.reg [⟨(some 50), none, .mv (.tmp 7)⟩,
    ⟨(some 2), none, .mv (.tmp 50)⟩,
    ⟨(some 3), none, .mv (.const (Value.bool true))⟩])
  .ret))))))), 51, [.tmp 2, .tmp 3], false⟩
theorem c39 : cmpF Tryz.prog [] k39.pure 39 = some k39 := by kernel_rfl
-- (*joist/session.taker).nums
def k40 : KF := ⟨(.seq (.reg [⟨(some 6), none, .mv (.tmp 1)⟩,
    ⟨(some 7), none, .len (.tmp 6)⟩,
    ⟨(some 8), none, .mv (.const (Value.int IntKind.i64 0))⟩])
  (.blk 0 (.loop (.seq (.reg [⟨(some 9), none, .bin .lss 3 (.tmp 8) (.tmp 7) 3 0⟩])
  (.seq (.cond (.tmp 9) .skip (.exit 0))
  (.seq (.blk 1 (.seq (.reg [⟨(some 10), none, .idx none 1 (.tmp 6) (.tmp 8)⟩,
    ⟨(some 11), none, .load (.tmp 10)⟩,
    ⟨(some 5), none, .mv (.tmp 11)⟩])
  (.reg [⟨(some 12), none, .mv (.tmp 5)⟩,
    ⟨(some 13), none, .mv (.tmp 0)⟩,
    ⟨(some 14), none, .call (.func 80) [(.tmp 13)]⟩,
    ⟨(some 15), none, .nilck (.tmp 12)⟩,
    ⟨none, none, .store 1 (.tmp 15) (.tmp 14)⟩])))
  (.reg [⟨(some 16), none, .bin .add 3 (.tmp 8) (.const (Value.int IntKind.i64 1)) 3 3⟩,
    ⟨(some 8), none, .mv (.tmp 16)⟩]))))))), 17, [], false⟩
theorem c40 : cmpF Tryz.prog [] k40.pure 40 = some k40 := by kernel_rfl
-- (*joist/session.taker).texts
def k41 : KF := ⟨(.seq (.reg [⟨(some 6), none, .mv (.tmp 1)⟩,
    ⟨(some 7), none, .len (.tmp 6)⟩,
    ⟨(some 8), none, .mv (.const (Value.int IntKind.i64 0))⟩])
  (.blk 0 (.loop (.seq (.reg [⟨(some 9), none, .bin .lss 3 (.tmp 8) (.tmp 7) 3 0⟩])
  (.seq (.cond (.tmp 9) .skip (.exit 0))
  (.seq (.blk 1 (.seq (.reg [⟨(some 10), none, .idx none 1 (.tmp 6) (.tmp 8)⟩,
    ⟨(some 11), none, .load (.tmp 10)⟩,
    ⟨(some 5), none, .mv (.tmp 11)⟩])
  (.reg [⟨(some 12), none, .mv (.tmp 5)⟩,
    ⟨(some 13), none, .mv (.tmp 0)⟩,
    ⟨(some 14), none, .call (.func 44) [(.tmp 13)]⟩,
    ⟨(some 15), none, .toT (.tmp 14)⟩,
    ⟨(some 16), none, .nilck (.tmp 12)⟩,
    ⟨none, none, .store 1 (.tmp 16) (.tmp 15)⟩])))
  (.reg [⟨(some 17), none, .bin .add 3 (.tmp 8) (.const (Value.int IntKind.i64 1)) 3 3⟩,
    ⟨(some 8), none, .mv (.tmp 17)⟩]))))))), 18, [], false⟩
theorem c41 : cmpF Tryz.prog [] k41.pure 41 = some k41 := by kernel_rfl
-- (*joist/session.taker).list
def k42 : KF := ⟨(.seq (.reg [⟨(some 2), none, .mv (.const (Value.pointer none))⟩])
  (.seq (.reg [⟨(some 6), none, .mv (.tmp 0)⟩,
    ⟨(some 7), none, .call (.func 44) [(.tmp 6)]⟩,
    ⟨(some 8), none, .call (.func 39) [(.tmp 7)]⟩,
    ⟨(some 5), none, .mv (.tmp 8)⟩,
    ⟨(some 9), none, .ext (.tmp 5) 0⟩,
    ⟨(some 10), none, .ext (.tmp 5) 1⟩,
    ⟨(some 3), none, .mv (.tmp 9)⟩,
    ⟨(some 4), none, .mv (.tmp 10)⟩])
  (.seq (.reg [⟨(some 11), none, .mv (.tmp 3)⟩,
    ⟨(some 12), none, .bld [Value.slice none 0 0] [(0, 1)] [(0, (.tmp 11))]⟩,
    ⟨(some 13), none, .box (.tmp 12)⟩,
    ⟨(some 2), none, .mv (.tmp 13)⟩])
  .ret))), 14, [.tmp 2], false⟩
theorem c42 : cmpF Tryz.prog [] k42.pure 42 = some k42 := by kernel_rfl
-- joist/codec.Decode
def k43 : KF := ⟨(.seq (.reg [⟨(some 2), none, .alloc [Value.string { data := #[] }, Value.string { data := #[] }, Value.string { data := #[] }, Value.int IntKind.i64 0, Value.int IntKind.i64 0, Value.int IntKind.i64 0, Value.int IntKind.i64 0, Value.string { data := #[] }]⟩,
    ⟨(some 3), none, .alloc [Value.bool false]⟩])
  (.seq (.reg [⟨(some 5), none, .mkf (Fn.func 81) [] [(.tmp 2), (.tmp 3)]⟩,
    ⟨none, none, .bad⟩])
  (.seq (.reg [⟨(some 6), none, .mv (.tmp 0)⟩,
    ⟨(some 7), none, .bld [Value.slice none 0 0] [(0, 1)] [(0, (.tmp 6))]⟩,
    ⟨(some 8), none, .box (.tmp 7)⟩,
    ⟨(some 4), none, .mv (.tmp 8)⟩])
  (.seq (.reg [⟨(some 9), none, .mv (.tmp 4)⟩,
    ⟨(some 10), none, .call (.func 82) [(.tmp 9)]⟩,
    ⟨none, none, .store 8 (.tmp 2) (.tmp 10)⟩,
    ⟨none, none, .store 1 (.tmp 3) (.const (Value.bool true))⟩])
  .ret)))), 11, [.agg 2 8, .cell 3], false⟩
theorem c43 : cmpF Tryz.prog [] k43.pure 43 = some k43 := by kernel_rfl
-- (*joist/session.taker).part
def k44 : KF := ⟨(.seq (.reg [⟨(some 2), none, .mv (.const (Value.slice none 0 0))⟩])
  (.seq (.seq (.reg [⟨(some 4), none, .mv (.tmp 0)⟩,
    ⟨(some 5), none, .nilck (.tmp 4)⟩,
    ⟨(some 6), none, .fld 0 (.tmp 5)⟩,
    ⟨(some 7), none, .load (.tmp 6)⟩,
    ⟨(some 8), none, .len (.tmp 7)⟩,
    ⟨(some 9), none, .bin .eql 3 (.tmp 8) (.const (Value.int IntKind.i64 0)) 3 4⟩])
  (.cond (.tmp 9) (.seq (.reg [⟨(some 2), none, .mv (.const (Value.slice none 0 0))⟩])
  .ret) .skip))
  (.seq (.reg [⟨(some 10), none, .mv (.tmp 0)⟩,
    ⟨(some 11), none, .nilck (.tmp 10)⟩,
    ⟨(some 12), none, .fld 0 (.tmp 11)⟩,
    ⟨(some 13), none, .load (.tmp 12)⟩,
    ⟨(some 14), none, .idx none 1 (.tmp 13) (.const (Value.int IntKind.i64 0))⟩,
    ⟨(some 15), none, .load (.tmp 14)⟩,
    ⟨(some 3), none, .mv (.tmp 15)⟩])
  (.seq (.reg [⟨(some 16), none, .mv (.tmp 0)⟩,
    ⟨(some 17), none, .mv (.tmp 0)⟩,
    ⟨(some 18), none, .nilck (.tmp 17)⟩,
    ⟨(some 19), none, .fld 0 (.tmp 18)⟩,
    ⟨(some 20), none, .load (.tmp 19)⟩,
    ⟨(some 21), none, .cut 1 (.tmp 20) (some (.const (Value.int IntKind.i64 1))) none none⟩,
    ⟨(some 22), none, .nilck (.tmp 16)⟩,
    ⟨(some 23), none, .fld 0 (.tmp 22)⟩,
    ⟨none, none, .store 1 (.tmp 23) (.tmp 21)⟩])
  (.seq (.reg [⟨(some 24), none, .mv (.tmp 3)⟩,
    ⟨(some 2), none, .mv (.tmp 24)⟩])
  .ret))))), 25, [.tmp 2], false⟩
theorem c44 : cmpF Tryz.prog [] k44.pure 44 = some k44 := by kernel_rfl
-- (*joist/session.taker).layouted
def k45 : KF := ⟨(.seq (.reg [⟨(some 2), none, .alloc [Value.string { data := #[] }, Value.slice none 0 0]⟩])
  (.seq (.reg [⟨(some 6), none, .mv (.tmp 0)⟩,
    ⟨(some 7), none, .call (.func 42) [(.tmp 6)]⟩,
    ⟨(some 3), none, .mv (.tmp 7)⟩])
  (.seq (.reg [⟨(some 4), none, .alloc [Value.string { data := #[] }, Value.slice none 0 0]⟩])
  (.seq (.reg [⟨(some 8), none, .mv (.tmp 3)⟩,
    ⟨(some 9), none, .fld 0 (.tmp 4)⟩,
    ⟨(some 10), none, .bls 1 [Value.pointer none] 1 [(0, (.tmp 9))]⟩,
    ⟨(some 11), none, .call (.func 41) [(.tmp 8), (.tmp 10)]⟩])
  (.seq (.blk 0 (.loop (.seq (.seq (.reg [⟨(some 12), none, .mv (.tmp 3)⟩,
    ⟨(some 13), none, .nilck (.tmp 12)⟩,
    ⟨(some 14), none, .fld 0 (.tmp 13)⟩,
    ⟨(some 15), none, .load (.tmp 14)⟩,
    ⟨(some 16), none, .len (.tmp 15)⟩,
    ⟨(some 17), none, .bin .gtr 3 (.tmp 16) (.const (Value.int IntKind.i64 0)) 3 4⟩])
  (.cond (.tmp 17) .skip (.exit 0)))
  (.blk 1 (.seq (.reg [⟨(some 5), none, .alloc [Value.int IntKind.i64 0, Value.int IntKind.i64 0]⟩])
  (.seq (.reg [⟨(some 18), none, .mv (.tmp 3)⟩,
    ⟨(some 19), none, .fld 0 (.tmp 5)⟩,
    ⟨(some 20), none, .fld 1 (.tmp 5)⟩,
    ⟨(some 21), none, .bls 1 [Value.pointer none] 2 [(0, (.tmp 19)), (1, (.tmp 20))]⟩,
    ⟨(some 22), none, .call (.func 40) [(.tmp 18), (.tmp 21)]⟩])
  (.reg [⟨(some 23), none, .fld 1 (.tmp 4)⟩,
    ⟨(some 24), none, .load (.tmp 23)⟩,
    ⟨(some 25), none, .loadA 2 (.tmp 5)⟩,
    ⟨(some 26), none, .bls 2 [Value.int IntKind.i64 0, Value.int IntKind.i64 0] 1 [(0, (.tmp 25))]⟩,
    ⟨(some 27), none, .app 2 16 (.tmp 24) (.tmp 26)⟩,
    ⟨(some 28), none, .fld 1 (.tmp 4)⟩,
    ⟨none, none, .store 1 (.tmp 28) (.tmp 27)⟩])))))))
  (.seq (.reg [⟨(some 29), none, .loadA 2 (.tmp 4)⟩,
    ⟨none, none, .store 2 (.tmp 2) (.tmp 29)⟩])
  .ret)))))), 30, [.agg 2 2], false⟩
theorem c45 : cmpF Tryz.prog [] k45.pure 45 = some k45 := by kernel_rfl
-- bytes.Equal
def k46 : KF := ⟨(.seq (.reg [⟨(some 4), none, .mv (.const (Value.bool false))⟩])
  (.seq (.reg [⟨(some 5), none, .mv (.tmp 0)⟩,
    ⟨(some 6), none, .toT (.tmp 5)⟩,
    ⟨(some 7), none, .mv (.tmp 1)⟩,
    ⟨(some 8), none, .toT (.tmp 7)⟩,
    ⟨(some 9), none, .bin .eql 9 (.tmp 6) (.tmp 8) 9 4⟩,
    ⟨(some 4), none, .mv (.tmp 9)⟩])
  .ret)), 10, [.tmp 4], false⟩
theorem c46 : cmpF Tryz.prog [] k46.pure 46 = some k46 := by kernel_rfl
-- joist/joistref00.SameCells
def k47 : KF := ⟨(.seq (.reg [⟨(some 4), none, .mv (.const (Value.bool false))⟩])
  (.seq (.seq (.reg [⟨(some 6), none, .mv (.tmp 0)⟩,
    ⟨(some 7), none, .len (.tmp 6)⟩,
    ⟨(some 8), none, .mv (.tmp 1)⟩,
    ⟨(some 9), none, .len (.tmp 8)⟩,
    ⟨(some 10), none, .bin .neq 3 (.tmp 7) (.tmp 9) 3 4⟩])
  (.cond (.tmp 10) (.seq (.reg [⟨(some 4), none, .mv (.const (Value.bool false))⟩])
  .ret) .skip))
  (.seq (.seq (.reg [⟨(some 5), none, .mv (.const (Value.int IntKind.i64 0))⟩])
  (.blk 0 (.loop (.seq (.seq (.reg [⟨(some 11), none, .mv (.tmp 5)⟩,
    ⟨(some 12), none, .mv (.tmp 0)⟩,
    ⟨(some 13), none, .len (.tmp 12)⟩,
    ⟨(some 14), none, .bin .lss 3 (.tmp 11) (.tmp 13) 3 4⟩])
  (.cond (.tmp 14) .skip (.exit 0)))
  (.seq (.blk 1 (.seq (.drw [⟨(some 17), none, .mv (.tmp 0)⟩,
    ⟨(some 18), none, .mv (.tmp 5)⟩,
    ⟨(some 19), none, .idx none 8 (.tmp 17) (.tmp 18)⟩,
    ⟨(some 20), none, .loadA 8 (.tmp 19)⟩,
    ⟨(some 21), none, .mv (.tmp 1)⟩,
    ⟨(some 22), none, .mv (.tmp 5)⟩,
    ⟨(some 23), none, .idx none 8 (.tmp 21) (.tmp 22)⟩,
    ⟨(some 24), none, .loadA 8 (.tmp 23)⟩,
    ⟨(some 25), none, .bin .neq 71 (.tmp 20) (.tmp 24) 71 4⟩] [[], [], [0, 1], [2], [], [], [4, 5], [6], [3, 7]] [0, 1, 2, 3, 4, 5, 6, 7, 8])
  (.cond (.tmp 25) (.seq (.reg [⟨(some 4), none, .mv (.const (Value.bool false))⟩])
  .ret) .skip)))
  (.reg [⟨(some 15), none, .mv (.tmp 5)⟩,
    ⟨(some 16), none, .bin .add 3 (.tmp 15) (.const (Value.int IntKind.i64 1)) 3 3⟩,
    ⟨(some 5), none, .mv (.tmp 16)⟩]))))))
  (.seq (.reg [⟨(some 4), none, .mv (.const (Value.bool true))⟩])
  .ret)))), 26, [.tmp 4], false⟩
theorem c47 : cmpF Tryz.prog [(6, [0, 1, 2, 3, 4, 5, 6, 7, 8], [0, 1, 2, 3, 4, 5, 6, 7, 8], [0, 1, 2, 3, 4, 5, 6, 7, 8])] k47.pure 47 = some k47 := by kernel_rfl
-- joist/joistref00.SameFamily
def k48 : KF := ⟨(.seq (.reg [⟨(some 2), none, .box (.tmp 0)⟩,
    ⟨(some 3), none, .box (.tmp 1)⟩,
    ⟨(some 4), none, .mv (.const (Value.bool false))⟩])
  (.seq (.seq (.reg [⟨(some 7), none, .fld 0 (.tmp 2)⟩,
    ⟨(some 8), none, .load (.tmp 7)⟩,
    ⟨(some 9), none, .fld 0 (.tmp 3)⟩,
    ⟨(some 10), none, .load (.tmp 9)⟩,
    ⟨(some 11), none, .bin .neq 9 (.tmp 8) (.tmp 10) 9 4⟩,
    ⟨(some 12), none, .mv (.tmp 11)⟩,
    ⟨(some 13), (some (12, false)), .fld 1 (.tmp 2)⟩,
    ⟨(some 14), (some (12, false)), .load (.tmp 13)⟩,
    ⟨(some 15), (some (12, false)), .fld 1 (.tmp 3)⟩,
    ⟨(some 16), (some (12, false)), .load (.tmp 15)⟩,
    ⟨(some 17), (some (12, false)), .bin .neq 3 (.tmp 14) (.tmp 16) 3 4⟩,
    ⟨(some 18), none, .pick (.tmp 12) (.const (Value.bool true)) (.tmp 17)⟩,
    ⟨(some 19), none, .mv (.tmp 18)⟩,
    ⟨(some 20), (some (19, false)), .fld 2 (.tmp 2)⟩,
    ⟨(some 21), (some (19, false)), .load (.tmp 20)⟩,
    ⟨(some 22), (some (19, false)), .fld 2 (.tmp 3)⟩,
    ⟨(some 23), (some (19, false)), .load (.tmp 22)⟩,
    ⟨(some 24), (some (19, false)), .bin .neq 3 (.tmp 21) (.tmp 23) 3 4⟩,
    ⟨(some 25), none, .pick (.tmp 19) (.const (Value.bool true)) (.tmp 24)⟩,
    ⟨(some 26), none, .mv (.tmp 25)⟩,
    ⟨(some 27), (some (26, false)), .fld 3 (.tmp 2)⟩,
    ⟨(some 28), (some (26, false)), .load (.tmp 27)⟩,
    ⟨(some 29), (some (26, false)), .len (.tmp 28)⟩,
    ⟨(some 30), (some (26, false)), .fld 3 (.tmp 3)⟩,
    ⟨(some 31), (some (26, false)), .load (.tmp 30)⟩,
    ⟨(some 32), (some (26, false)), .len (.tmp 31)⟩,
    ⟨(some 33), (some (26, false)), .bin .neq 3 (.tmp 29) (.tmp 32) 3 4⟩,
    ⟨(some 34), none, .pick (.tmp 26) (.const (Value.bool true)) (.tmp 33)⟩,
    ⟨(some 35), none, .mv (.tmp 34)⟩,
    ⟨(some 36), (some (35, false)), .fld 4 (.tmp 2)⟩,
    ⟨(some 37), (some (35, false)), .load (.tmp 36)⟩,
    ⟨(some 38), (some (35, false)), .len (.tmp 37)⟩,
    ⟨(some 39), (some (35, false)), .fld 4 (.tmp 3)⟩,
    ⟨(some 40), (some (35, false)), .load (.tmp 39)⟩,
    ⟨(some 41), (some (35, false)), .len (.tmp 40)⟩,
    ⟨(some 42), (some (35, false)), .bin .neq 3 (.tmp 38) (.tmp 41) 3 4⟩,
    ⟨(some 43), none, .pick (.tmp 35) (.const (Value.bool true)) (.tmp 42)⟩])
  (.cond (.tmp 43) (.seq (.reg [⟨(some 4), none, .mv (.const (Value.bool false))⟩])
  .ret) .skip))
  (.seq (.seq (.reg [⟨(some 5), none, .mv (.const (Value.int IntKind.i64 0))⟩])
  (.blk 0 (.loop (.seq (.seq (.reg [⟨(some 44), none, .mv (.tmp 5)⟩,
    ⟨(some 45), none, .fld 3 (.tmp 2)⟩,
    ⟨(some 46), none, .load (.tmp 45)⟩,
    ⟨(some 47), none, .len (.tmp 46)⟩,
    ⟨(some 48), none, .bin .lss 3 (.tmp 44) (.tmp 47) 3 4⟩])
  (.cond (.tmp 48) .skip (.exit 0)))
  (.seq (.blk 1 (.seq (.drw [⟨(some 51), none, .fld 3 (.tmp 2)⟩,
    ⟨(some 52), none, .load (.tmp 51)⟩,
    ⟨(some 53), none, .mv (.tmp 5)⟩,
    ⟨(some 54), none, .idx none 2 (.tmp 52) (.tmp 53)⟩,
    ⟨(some 55), none, .loadA 2 (.tmp 54)⟩,
    ⟨(some 56), none, .fld 3 (.tmp 3)⟩,
    ⟨(some 57), none, .load (.tmp 56)⟩,
    ⟨(some 58), none, .mv (.tmp 5)⟩,
    ⟨(some 59), none, .idx none 2 (.tmp 57) (.tmp 58)⟩,
    ⟨(some 60), none, .loadA 2 (.tmp 59)⟩,
    ⟨(some 61), none, .bin .neq 65 (.tmp 55) (.tmp 60) 65 4⟩] [[], [0], [], [1, 2], [3], [], [5], [], [6, 7], [8], [4, 9]] [0, 1, 2, 3, 4, 5, 6, 7, 8, 9, 10])
  (.cond (.tmp 61) (.seq (.reg [⟨(some 4), none, .mv (.const (Value.bool false))⟩])
  .ret) .skip)))
  (.reg [⟨(some 49), none, .mv (.tmp 5)⟩,
    ⟨(some 50), none, .bin .add 3 (.tmp 49) (.const (Value.int IntKind.i64 1)) 3 3⟩,
    ⟨(some 5), none, .mv (.tmp 50)⟩]))))))
  (.seq (.seq (.reg [⟨(some 6), none, .mv (.const (Value.int IntKind.i64 0))⟩])
  (.blk 2 (.loop (.seq (.seq (.reg [⟨(some 62), none, .mv (.tmp 6)⟩,
    ⟨(some 63), none, .fld 4 (.tmp 2)⟩,
    ⟨(some 64), none, .load (.tmp 63)⟩,
    ⟨(some 65), none, .len (.tmp 64)⟩,
    ⟨(some 66), none, .bin .lss 3 (.tmp 62) (.tmp 65) 3 4⟩])
  (.cond (.tmp 66) .skip (.exit 2)))
  (.seq (.blk 3 (.seq (.drw [⟨(some 69), none, .fld 4 (.tmp 2)⟩,
    ⟨(some 70), none, .load (.tmp 69)⟩,
    ⟨(some 71), none, .mv (.tmp 6)⟩,
    ⟨(some 72), none, .idx none 3 (.tmp 70) (.tmp 71)⟩,
    ⟨(some 73), none, .loadA 3 (.tmp 72)⟩,
    ⟨(some 74), none, .fld 4 (.tmp 3)⟩,
    ⟨(some 75), none, .load (.tmp 74)⟩,
    ⟨(some 76), none, .mv (.tmp 6)⟩,
    ⟨(some 77), none, .idx none 3 (.tmp 75) (.tmp 76)⟩,
    ⟨(some 78), none, .loadA 3 (.tmp 77)⟩,
    ⟨(some 79), none, .bin .neq 135 (.tmp 73) (.tmp 78) 135 4⟩] [[], [0], [], [1, 2], [3], [], [5], [], [6, 7], [8], [4, 9]] [0, 1, 2, 3, 4, 5, 6, 7, 8, 9, 10])
  (.cond (.tmp 79) (.seq (.reg [⟨(some 4), none, .mv (.const (Value.bool false))⟩])
  .ret) .skip)))
  (.reg [⟨(some 67), none, .mv (.tmp 6)⟩,
    ⟨(some 68), none, .bin .add 3 (.tmp 67) (.const (Value.int IntKind.i64 1)) 3 3⟩,
    ⟨(some 6), none, .mv (.tmp 68)⟩]))))))
  (.seq (.reg [⟨(some 4), none, .mv (.const (Value.bool true))⟩])
  .ret))))), 80, [.tmp 4], false⟩
theorem c48 : cmpF Tryz.prog [(6, [0, 1, 2, 3, 4, 5, 6, 7, 8, 9, 10], [0, 1, 2, 3, 4, 5, 6, 7, 8, 9, 10], [0, 1, 2, 3, 4, 5, 6, 7, 8, 9, 10]), (11, [0, 1, 2, 3, 4, 5, 6, 7, 8, 9, 10], [0, 1, 2, 3, 4, 5, 6, 7, 8, 9, 10], [0, 1, 2, 3, 4, 5, 6, 7, 8, 9, 10])] k48.pure 48 = some k48 := by kernel_rfl
-- (*joist/session.Book).of
def k49 : KF := ⟨(.seq (.reg [⟨(some 4), none, .mv (.const (Value.pointer none))⟩])
  (.seq (.seq (.reg [⟨(some 5), none, .mv (.tmp 1)⟩,
    ⟨(some 6), none, .call (.func 70) [(.tmp 5), (.const (Value.int IntKind.i64 7))]⟩,
    ⟨(some 7), none, .not (.tmp 6)⟩])
  (.cond (.tmp 7) (.seq (.reg [⟨(some 4), none, .mv (.const (Value.pointer none))⟩])
  .ret) .skip))
  (.seq (.reg [⟨(some 8), none, .mv (.tmp 0)⟩,
    ⟨(some 9), none, .mv (.tmp 1)⟩,
    ⟨(some 10), none, .nilck (.tmp 8)⟩,
    ⟨(some 11), none, .fld 0 (.tmp 10)⟩,
    ⟨(some 12), none, .idx (some 8) 2 (.tmp 11) (.tmp 9)⟩,
    ⟨(some 4), none, .mv (.tmp 12)⟩])
  .ret))), 13, [.tmp 4], false⟩
theorem c49 : cmpF Tryz.prog [] k49.pure 49 = some k49 := by kernel_rfl
-- joist/codec.Num
def k65 : KF := ⟨(.seq (.reg [⟨(some 2), none, .mv (.const (Value.slice none 0 0))⟩])
  (.seq (.seq (.reg [⟨(some 4), none, .mv (.tmp 0)⟩,
    ⟨(some 5), none, .bin .lss 3 (.tmp 4) (.const (Value.int IntKind.i64 0)) 3 4⟩])
  (.cond (.tmp 5) (.seq (.reg [⟨(some 2), none, .mv (.const (Value.slice none 0 0))⟩])
  .ret) .skip))
  (.seq (.reg [⟨(some 3), none, .mv (.const (Value.slice none 0 0))⟩])
  (.seq (.blk 0 (.loop (.seq (.seq (.reg [⟨(some 6), none, .mv (.tmp 0)⟩,
    ⟨(some 7), none, .bin .gtr 3 (.tmp 6) (.const (Value.int IntKind.i64 127)) 3 4⟩])
  (.cond (.tmp 7) .skip (.exit 0)))
  (.blk 1 (.seq (.reg [⟨(some 8), none, .mv (.tmp 3)⟩,
    ⟨(some 9), none, .mv (.tmp 0)⟩,
    ⟨(some 10), none, .bin .and 3 (.tmp 9) (.const (Value.int IntKind.i64 127)) 3 3⟩,
    ⟨(some 11), none, .bin .or 3 (.tmp 10) (.const (Value.int IntKind.i64 128)) 3 3⟩,
    ⟨(some 12), none, .conv .u8 (.tmp 11)⟩,
    ⟨(some 13), none, .bls 1 [Value.int IntKind.u8 0] 1 [(0, (.tmp 12))]⟩,
    ⟨(some 14), none, .app 1 1 (.tmp 8) (.tmp 13)⟩,
    ⟨(some 3), none, .mv (.tmp 14)⟩])
  (.reg [⟨(some 15), none, .mv (.tmp 0)⟩,
    ⟨(some 16), none, .bin .shr 3 (.tmp 15) (.const (Value.int IntKind.u64 7)) 143 3⟩,
    ⟨(some 0), none, .mv (.tmp 16)⟩]))))))
  (.seq (.reg [⟨(some 17), none, .mv (.tmp 3)⟩,
    ⟨(some 18), none, .mv (.tmp 0)⟩,
    ⟨(some 19), none, .conv .u8 (.tmp 18)⟩,
    ⟨(some 20), none, .bls 1 [Value.int IntKind.u8 0] 1 [(0, (.tmp 19))]⟩,
    ⟨(some 21), none, .app 1 1 (.tmp 17) (.tmp 20)⟩,
    ⟨(some 2), none, .mv (.tmp 21)⟩])
  .ret))))), 22, [.tmp 2], false⟩
theorem c65 : cmpF Tryz.prog [] k65.pure 65 = some k65 := by kernel_rfl
-- joist/codec.Encode
def k66 : KF := ⟨(.seq (.reg [⟨(some 1), none, .box (.tmp 0)⟩,
    ⟨(some 2), none, .mv (.const (Value.slice none 0 0))⟩,
    ⟨(some 3), none, .mv (.const (Value.bool false))⟩])
  (.seq (.reg [⟨(some 9), none, .loadA 8 (.tmp 1)⟩,
    ⟨(some 10), none, .call (.func 90) [(.tmp 9)]⟩,
    ⟨(some 8), none, .mv (.tmp 10)⟩,
    ⟨(some 11), none, .ext (.tmp 8) 0⟩,
    ⟨(some 12), none, .ext (.tmp 8) 1⟩,
    ⟨(some 4), none, .mv (.tmp 11)⟩,
    ⟨(some 5), none, .mv (.tmp 12)⟩])
  (.seq (.seq (.reg [⟨(some 13), none, .mv (.tmp 5)⟩,
    ⟨(some 14), none, .mv (.tmp 13)⟩,
    ⟨(some 15), (some (14, true)), .fld 4 (.tmp 1)⟩,
    ⟨(some 16), (some (14, true)), .load (.tmp 15)⟩,
    ⟨(some 17), (some (14, true)), .bin .eql 3 (.tmp 16) (.const (Value.int IntKind.i64 1)) 3 4⟩,
    ⟨(some 18), none, .pick (.tmp 14) (.tmp 17) (.const (Value.bool false))⟩])
  (.cond (.tmp 18) (.seq (.reg [⟨(some 20), none, .fld 5 (.tmp 1)⟩,
    ⟨(some 21), none, .loadA 3 (.tmp 20)⟩,
    ⟨(some 22), none, .call (.func 91) [(.tmp 21)]⟩,
    ⟨(some 19), none, .mv (.tmp 22)⟩,
    ⟨(some 23), none, .ext (.tmp 19) 0⟩,
    ⟨(some 24), none, .ext (.tmp 19) 1⟩,
    ⟨(some 6), none, .mv (.tmp 23)⟩,
    ⟨(some 7), none, .mv (.tmp 24)⟩])
  (.reg [⟨(some 25), none, .mv (.tmp 4)⟩,
    ⟨(some 26), none, .mv (.tmp 6)⟩,
    ⟨(some 27), none, .app 1 1 (.tmp 25) (.tmp 26)⟩,
    ⟨(some 4), none, .mv (.tmp 27)⟩])) .skip))
  (.seq (.reg [⟨(some 28), none, .mv (.tmp 4)⟩,
    ⟨(some 29), none, .mv (.tmp 5)⟩,
    ⟨(some 2), none, .mv (.tmp 28)⟩,
    ⟨(some 3), none, .mv (.tmp 29)⟩])
  .ret)))), 30, [.tmp 2, .tmp 3], false⟩
theorem c66 : cmpF Tryz.prog [] k66.pure 66 = some k66 := by kernel_rfl
-- slices.Concat[[]byte,byte]
def k67 : KF := ⟨(.seq (.reg [⟨(some 2), none, .mv (.const (Value.slice none 0 0))⟩])
  (.seq (.reg [⟨(some 3), none, .mv (.const (Value.int IntKind.i64 0))⟩])
  (.seq (.seq (.reg [⟨(some 9), none, .mv (.tmp 0)⟩,
    ⟨(some 10), none, .len (.tmp 9)⟩,
    ⟨(some 11), none, .mv (.const (Value.int IntKind.i64 0))⟩])
  (.blk 0 (.loop (.seq (.reg [⟨(some 12), none, .bin .lss 3 (.tmp 11) (.tmp 10) 3 0⟩])
  (.seq (.cond (.tmp 12) .skip (.exit 0))
  (.seq (.blk 1 (.seq (.reg [⟨(some 13), none, .idx none 1 (.tmp 9) (.tmp 11)⟩,
    ⟨(some 14), none, .load (.tmp 13)⟩,
    ⟨(some 5), none, .mv (.tmp 14)⟩])
  (.seq (.reg [⟨(some 15), none, .mv (.tmp 3)⟩,
    ⟨(some 16), none, .mv (.tmp 5)⟩,
    ⟨(some 17), none, .len (.tmp 16)⟩,
    ⟨(some 18), none, .bin .add 3 (.tmp 15) (.tmp 17) 3 3⟩,
    ⟨(some 3), none, .mv (.tmp 18)⟩])
  (.seq (.reg [⟨(some 19), none, .mv (.tmp 3)⟩,
    ⟨(some 20), none, .bin .lss 3 (.tmp 19) (.const (Value.int IntKind.i64 0)) 3 4⟩])
  (.cond (.tmp 20) (.reg [⟨(some 21), none, .bad⟩,
    ⟨none, none, .bad⟩]) .skip)))))
  (.reg [⟨(some 22), none, .bin .add 3 (.tmp 11) (.const (Value.int IntKind.i64 1)) 3 3⟩,
    ⟨(some 11), none, .mv (.tmp 22)⟩])))))))
  (.seq (.reg [⟨(some 23), none, .mv (.tmp 3)⟩,
    ⟨(some 24), none, .call (.func 92) [(.const (Value.slice none 0 0)), (.tmp 23)]⟩,
    ⟨(some 6), none, .mv (.tmp 24)⟩])
  (.seq (.seq (.reg [⟨(some 25), none, .mv (.tmp 0)⟩,
    ⟨(some 26), none, .len (.tmp 25)⟩,
    ⟨(some 27), none, .mv (.const (Value.int IntKind.i64 0))⟩])
  (.blk 2 (.loop (.seq (.reg [⟨(some 28), none, .bin .lss 3 (.tmp 27) (.tmp 26) 3 0⟩])
  (.seq (.cond (.tmp 28) .skip (.exit 2))
  (.seq (.blk 3 (.seq (.reg [⟨(some 29), none, .idx none 1 (.tmp 25) (.tmp 27)⟩,
    ⟨(some 30), none, .load (.tmp 29)⟩,
    ⟨(some 8), none, .mv (.tmp 30)⟩])
  (.reg [⟨(some 31), none, .mv (.tmp 6)⟩,
    ⟨(some 32), none, .mv (.tmp 8)⟩,
    ⟨(some 33), none, .app 1 1 (.tmp 31) (.tmp 32)⟩,
    ⟨(some 6), none, .mv (.tmp 33)⟩])))
  (.reg [⟨(some 34), none, .bin .add 3 (.tmp 27) (.const (Value.int IntKind.i64 1)) 3 3⟩,
    ⟨(some 27), none, .mv (.tmp 34)⟩])))))))
  (.seq (.reg [⟨(some 35), none, .mv (.tmp 6)⟩,
    ⟨(some 2), none, .mv (.tmp 35)⟩])
  .ret)))))), 36, [.tmp 2], false⟩
theorem c67 : cmpF Tryz.prog [] k67.pure 67 = some k67 := by kernel_rfl
-- joist/session.within
def k70 : KF := ⟨(.seq (.reg [⟨(some 4), none, .mv (.const (Value.bool false))⟩])
  (.seq (.reg [⟨(some 5), none, .mv (.tmp 0)⟩,
    ⟨(some 6), none, .bin .geq 3 (.tmp 5) (.const (Value.int IntKind.i64 0)) 3 4⟩,
    ⟨(some 7), none, .mv (.tmp 6)⟩,
    ⟨(some 8), (some (7, true)), .mv (.tmp 0)⟩,
    ⟨(some 9), (some (7, true)), .mv (.tmp 1)⟩,
    ⟨(some 10), (some (7, true)), .bin .leq 3 (.tmp 8) (.tmp 9) 3 4⟩,
    ⟨(some 11), none, .pick (.tmp 7) (.tmp 10) (.const (Value.bool false))⟩,
    ⟨(some 4), none, .mv (.tmp 11)⟩])
  .ret)), 12, [.tmp 4], true⟩
theorem c70 : cmpF Tryz.prog [] k70.pure 70 = some k70 := by kernel_rfl
-- joist/session.name
def k71 : KF := ⟨(.seq (.reg [⟨(some 2), none, .mv (.const (Value.bool false))⟩])
  (.seq (.reg [⟨(some 3), none, .mv (.func 97)⟩])
  (.seq (.reg [⟨(some 4), none, .mv (.tmp 0)⟩,
    ⟨(some 5), none, .bin .neq 9 (.tmp 4) (.const (Value.string { data := #[] })) 9 4⟩,
    ⟨(some 6), none, .mv (.tmp 5)⟩,
    ⟨(some 7), (some (6, true)), .mv (.tmp 0)⟩,
    ⟨(some 8), (some (6, true)), .lenS (.tmp 7)⟩,
    ⟨(some 9), (some (6, true)), .bin .leq 3 (.tmp 8) (.const (Value.int IntKind.i64 8)) 3 4⟩,
    ⟨(some 10), none, .pick (.tmp 6) (.tmp 9) (.const (Value.bool false))⟩,
    ⟨(some 11), none, .mv (.tmp 10)⟩,
    ⟨(some 12), (some (11, true)), .mv (.tmp 0)⟩,
    ⟨(some 13), (some (11, true)), .mv (.tmp 3)⟩,
    ⟨(some 14), (some (11, true)), .call (.func 94) [(.tmp 12), (.tmp 13)]⟩,
    ⟨(some 15), (some (11, true)), .not (.tmp 14)⟩,
    ⟨(some 16), none, .pick (.tmp 11) (.tmp 15) (.const (Value.bool false))⟩,
    ⟨(some 2), none, .mv (.tmp 16)⟩])
  .ret))), 17, [.tmp 2], true⟩
theorem c71 : cmpF Tryz.prog [] k71.pure 71 = some k71 := by kernel_rfl
-- slices.IndexFunc[[]joist/api.Cell,joist/api.Cell]
def k72 : KF := ⟨(.seq (.reg [⟨(some 4), none, .mv (.const (Value.int IntKind.i64 0))⟩])
  (.seq (.seq (.reg [⟨(some 6), none, .mv (.tmp 0)⟩,
    ⟨(some 7), none, .len (.tmp 6)⟩,
    ⟨(some 8), none, .mv (.const (Value.int IntKind.i64 0))⟩])
  (.blk 0 (.loop (.seq (.reg [⟨(some 9), none, .bin .lss 3 (.tmp 8) (.tmp 7) 3 0⟩])
  (.seq (.cond (.tmp 9) .skip (.exit 0))
  (.seq (.blk 1 (.seq (.reg [⟨(some 10), none, .mv (.tmp 8)⟩,
    ⟨(some 5), none, .mv (.tmp 10)⟩])
  (.seq (.reg [⟨(some 11), none, .mv (.tmp 1)⟩,
    ⟨(some 12), none, .mv (.tmp 0)⟩,
    ⟨(some 13), none, .mv (.tmp 5)⟩,
    ⟨(some 14), none, .idx none 8 (.tmp 12) (.tmp 13)⟩,
    ⟨(some 15), none, .loadA 8 (.tmp 14)⟩,
    ⟨(some 16), none, .call (.tmp 11) [(.tmp 15)]⟩])
  (.cond (.tmp 16) (.seq (.reg [⟨(some 17), none, .mv (.tmp 5)⟩,
    ⟨(some 4), none, .mv (.tmp 17)⟩])
  .ret) .skip))))
  (.reg [⟨(some 18), none, .bin .add 3 (.tmp 8) (.const (Value.int IntKind.i64 1)) 3 3⟩,
    ⟨(some 8), none, .mv (.tmp 18)⟩])))))))
  (.seq (.reg [⟨(some 4), none, .mv (.const (Value.int IntKind.i64 (-1)))⟩])
  .ret))), 19, [.tmp 4], false⟩
theorem c72 : cmpF Tryz.prog [] k72.pure 72 = some k72 := by kernel_rfl
-- slices.IndexFunc[[]joist/api.Layouted,joist/api.Layouted]
def k73 : KF := ⟨(.seq (.reg [⟨(some 4), none, .mv (.const (Value.int IntKind.i64 0))⟩])
  (.seq (.seq (.reg [⟨(some 6), none, .mv (.tmp 0)⟩,
    ⟨(some 7), none, .len (.tmp 6)⟩,
    ⟨(some 8), none, .mv (.const (Value.int IntKind.i64 0))⟩])
  (.blk 0 (.loop (.seq (.reg [⟨(some 9), none, .bin .lss 3 (.tmp 8) (.tmp 7) 3 0⟩])
  (.seq (.cond (.tmp 9) .skip (.exit 0))
  (.seq (.blk 1 (.seq (.reg [⟨(some 10), none, .mv (.tmp 8)⟩,
    ⟨(some 5), none, .mv (.tmp 10)⟩])
  (.seq (.reg [⟨(some 11), none, .mv (.tmp 1)⟩,
    ⟨(some 12), none, .mv (.tmp 0)⟩,
    ⟨(some 13), none, .mv (.tmp 5)⟩,
    ⟨(some 14), none, .idx none 2 (.tmp 12) (.tmp 13)⟩,
    ⟨(some 15), none, .loadA 2 (.tmp 14)⟩,
    ⟨(some 16), none, .call (.tmp 11) [(.tmp 15)]⟩])
  (.cond (.tmp 16) (.seq (.reg [⟨(some 17), none, .mv (.tmp 5)⟩,
    ⟨(some 4), none, .mv (.tmp 17)⟩])
  .ret) .skip))))
  (.reg [⟨(some 18), none, .bin .add 3 (.tmp 8) (.const (Value.int IntKind.i64 1)) 3 3⟩,
    ⟨(some 8), none, .mv (.tmp 18)⟩])))))))
  (.seq (.reg [⟨(some 4), none, .mv (.const (Value.int IntKind.i64 (-1)))⟩])
  .ret))), 19, [.tmp 4], false⟩
theorem c73 : cmpF Tryz.prog [] k73.pure 73 = some k73 := by kernel_rfl
-- slices.ContainsFunc[[]joist/api.Layout,joist/api.Layout]
def k75 : KF := ⟨(.seq (.reg [⟨(some 4), none, .mv (.const (Value.bool false))⟩])
  (.seq (.reg [⟨(some 5), none, .mv (.tmp 0)⟩,
    ⟨(some 6), none, .mv (.tmp 1)⟩,
    ⟨(some 7), none, .call (.func 98) [(.tmp 5), (.tmp 6)]⟩,
    ⟨(some 8), none, .bin .geq 3 (.tmp 7) (.const (Value.int IntKind.i64 0)) 3 4⟩,
    ⟨(some 4), none, .mv (.tmp 8)⟩])
  .ret)), 9, [.tmp 4], false⟩
theorem c75 : cmpF Tryz.prog [] k75.pure 75 = some k75 := by kernel_rfl
-- joist/ddl.within
def k76 : KF := ⟨(.seq (.reg [⟨(some 6), none, .mv (.const (Value.bool false))⟩])
  (.seq (.reg [⟨(some 7), none, .mv (.tmp 0)⟩,
    ⟨(some 8), none, .mv (.tmp 1)⟩,
    ⟨(some 9), none, .bin .geq 3 (.tmp 7) (.tmp 8) 3 4⟩,
    ⟨(some 10), none, .mv (.tmp 9)⟩,
    ⟨(some 11), (some (10, true)), .mv (.tmp 0)⟩,
    ⟨(some 12), (some (10, true)), .mv (.tmp 2)⟩,
    ⟨(some 13), (some (10, true)), .bin .leq 3 (.tmp 11) (.tmp 12) 3 4⟩,
    ⟨(some 14), none, .pick (.tmp 10) (.tmp 13) (.const (Value.bool false))⟩,
    ⟨(some 6), none, .mv (.tmp 14)⟩])
  .ret)), 15, [.tmp 6], true⟩
theorem c76 : cmpF Tryz.prog [] k76.pure 76 = some k76 := by kernel_rfl
-- joist/ddl.name
def k77 : KF := ⟨(.seq (.reg [⟨(some 2), none, .mv (.const (Value.bool false))⟩])
  (.seq (.reg [⟨(some 3), none, .mv (.func 99)⟩])
  (.seq (.reg [⟨(some 4), none, .mv (.tmp 0)⟩,
    ⟨(some 5), none, .bin .neq 9 (.tmp 4) (.const (Value.string { data := #[] })) 9 4⟩,
    ⟨(some 6), none, .mv (.tmp 5)⟩,
    ⟨(some 7), (some (6, true)), .mv (.tmp 0)⟩,
    ⟨(some 8), (some (6, true)), .lenS (.tmp 7)⟩,
    ⟨(some 9), (some (6, true)), .bin .leq 3 (.tmp 8) (.const (Value.int IntKind.i64 8)) 3 4⟩,
    ⟨(some 10), none, .pick (.tmp 6) (.tmp 9) (.const (Value.bool false))⟩,
    ⟨(some 11), none, .mv (.tmp 10)⟩,
    ⟨(some 12), (some (11, true)), .mv (.tmp 0)⟩,
    ⟨(some 13), (some (11, true)), .mv (.tmp 3)⟩,
    ⟨(some 14), (some (11, true)), .call (.func 94) [(.tmp 12), (.tmp 13)]⟩,
    ⟨(some 15), (some (11, true)), .not (.tmp 14)⟩,
    ⟨(some 16), none, .pick (.tmp 11) (.tmp 15) (.const (Value.bool false))⟩,
    ⟨(some 2), none, .mv (.tmp 16)⟩])
  .ret))), 17, [.tmp 2], true⟩
theorem c77 : cmpF Tryz.prog [] k77.pure 77 = some k77 := by kernel_rfl
-- joist/ddl.told
def k78 : KF := ⟨(.seq (.reg [⟨(some 1), none, .box (.tmp 0)⟩,
    ⟨(some 2), none, .alloc [Value.int IntKind.i64 0, Value.string { data := #[] }, Value.string { data := #[] }, Value.int IntKind.i64 0, Value.int IntKind.i64 0, Value.int IntKind.i64 0, Value.int IntKind.i64 0]⟩])
  (.seq (.reg [⟨(some 4), none, .fld 0 (.tmp 1)⟩,
    ⟨(some 5), none, .load (.tmp 4)⟩,
    ⟨(some 6), none, .fld 1 (.tmp 1)⟩,
    ⟨(some 7), none, .load (.tmp 6)⟩,
    ⟨(some 8), none, .bld [Value.int IntKind.i64 0, Value.string { data := #[] }, Value.string { data := #[] }, Value.int IntKind.i64 0, Value.int IntKind.i64 0, Value.int IntKind.i64 0, Value.int IntKind.i64 0] [(0, 1), (1, 1), (2, 1), (3, 1), (4, 1), (5, 1), (6, 1)] [(0, (.tmp 5)), (1, (.tmp 7))]⟩,
    ⟨(some 3), none, .alloc [Value.int IntKind.i64 0, Value.string { data := #[] }, Value.string { data := #[] }, Value.int IntKind.i64 0, Value.int IntKind.i64 0, Value.int IntKind.i64 0, Value.int IntKind.i64 0]⟩,
    ⟨none, none, .store 7 (.tmp 3) (.tmp 8)⟩])
  (.seq (.seq (.reg [⟨(some 9), none, .fld 0 (.tmp 1)⟩,
    ⟨(some 10), none, .load (.tmp 9)⟩])
  (.blk 0 (.seq (.reg [⟨(some 12), none, .bin .eql 3 (.tmp 10) (.const (Value.int IntKind.i64 1)) 3 4⟩,
    ⟨(some 11), none, .mv (.tmp 12)⟩])
  (.cond (.tmp 11) (.drw [⟨(some 13), none, .fld 4 (.tmp 1)⟩,
    ⟨(some 14), none, .load (.tmp 13)⟩,
    ⟨(some 15), none, .fld 5 (.tmp 1)⟩,
    ⟨(some 16), none, .load (.tmp 15)⟩,
    ⟨(some 17), none, .fld 6 (.tmp 1)⟩,
    ⟨(some 18), none, .load (.tmp 17)⟩,
    ⟨(some 19), none, .fld 4 (.tmp 3)⟩,
    ⟨none, none, .store 1 (.tmp 19) (.tmp 14)⟩,
    ⟨(some 20), none, .fld 5 (.tmp 3)⟩,
    ⟨none, none, .store 1 (.tmp 20) (.tmp 16)⟩,
    ⟨(some 21), none, .fld 6 (.tmp 3)⟩,
    ⟨none, none, .store 1 (.tmp 21) (.tmp 18)⟩] [[], [0], [], [2], [], [4], [0, 1], [6, 1, 0, 1], [0, 1, 2, 3, 6, 7], [8, 3, 7, 0, 1, 2, 3, 6, 7], [0, 1, 2, 3, 4, 5, 6, 7, 8, 9], [10, 5, 9, 0, 1, 2, 3, 4, 5, 6, 7, 8, 9]] [0, 1, 2, 3, 4, 5, 6, 7, 8, 9, 10, 11]) (.seq (.reg [⟨(some 23), none, .bin .eql 3 (.tmp 10) (.const (Value.int IntKind.i64 3)) 3 4⟩,
    ⟨(some 22), none, .mv (.tmp 23)⟩])
  (.cond (.tmp 22) (.drw [⟨(some 24), none, .fld 2 (.tmp 1)⟩,
    ⟨(some 25), none, .load (.tmp 24)⟩,
    ⟨(some 26), none, .fld 3 (.tmp 1)⟩,
    ⟨(some 27), none, .load (.tmp 26)⟩,
    ⟨(some 28), none, .fld 2 (.tmp 3)⟩,
    ⟨none, none, .store 1 (.tmp 28) (.tmp 25)⟩,
    ⟨(some 29), none, .fld 3 (.tmp 3)⟩,
    ⟨none, none, .store 1 (.tmp 29) (.tmp 27)⟩] [[], [0], [], [2], [0, 1], [4, 1, 0, 1], [0, 1, 2, 3, 4, 5], [6, 3, 5, 0, 1, 2, 3, 4, 5]] [0, 1, 2, 3, 4, 5, 6, 7]) (.seq (.reg [⟨(some 31), none, .bin .eql 3 (.tmp 10) (.const (Value.int IntKind.i64 4)) 3 4⟩,
    ⟨(some 30), none, .mv (.tmp 31)⟩])
  (.cond (.tmp 30) (.reg [⟨(some 32), none, .fld 2 (.tmp 1)⟩,
    ⟨(some 33), none, .load (.tmp 32)⟩,
    ⟨(some 34), none, .fld 2 (.tmp 3)⟩,
    ⟨none, none, .store 1 (.tmp 34) (.tmp 33)⟩]) (.seq (.reg [⟨(some 36), none, .bin .eql 3 (.tmp 10) (.const (Value.int IntKind.i64 5)) 3 4⟩,
    ⟨(some 35), none, .mv (.tmp 36)⟩])
  (.cond (.tmp 35) (.reg [⟨(some 37), none, .fld 4 (.tmp 1)⟩,
    ⟨(some 38), none, .load (.tmp 37)⟩,
    ⟨(some 39), none, .fld 4 (.tmp 3)⟩,
    ⟨none, none, .store 1 (.tmp 39) (.tmp 38)⟩]) .skip))))))))))
  (.seq (.reg [⟨(some 40), none, .loadA 7 (.tmp 3)⟩,
    ⟨none, none, .store 7 (.tmp 2) (.tmp 40)⟩])
  .ret)))), 41, [.agg 2 7], false⟩
theorem c78 : cmpF Tryz.prog [(4, [0, 1, 2, 3, 4, 5, 6, 7, 8, 9, 10, 11], [0, 1, 6, 7, 2, 3, 8, 9, 4, 5, 10, 11], [0, 1, 2, 3, 4, 5, 6, 7, 8, 9, 10, 11]), (6, [0, 1, 2, 3, 4, 5, 6, 7], [0, 1, 4, 5, 2, 3, 6, 7], [0, 1, 2, 3, 4, 5, 6, 7])] k78.pure 78 = some k78 := by kernel_rfl
-- joist/codec.Take
def k79 : KF := ⟨(.seq (.reg [⟨(some 2), none, .mv (.const (Value.int IntKind.i64 0))⟩,
    ⟨(some 3), none, .mv (.const (Value.slice none 0 0))⟩,
    ⟨(some 4), none, .mv (.const (Value.bool false))⟩])
  (.seq (.reg [⟨(some 5), none, .mv (.const (Value.int IntKind.i64 0))⟩])
  (.seq (.seq (.reg [⟨(some 8), none, .mv (.tmp 0)⟩,
    ⟨(some 9), none, .mv (.tmp 0)⟩,
    ⟨(some 10), none, .len (.tmp 9)⟩,
    ⟨(some 11), none, .gen (Op.call { callee := (Callee.builtin Builtin.min), args := #[(Operand.tmp 10), (Operand.const (Value.int IntKind.i64 9))], argTypes := #[3, 3] }) 3⟩,
    ⟨(some 12), none, .cut 1 (.tmp 8) none (some (.tmp 11)) none⟩,
    ⟨(some 13), none, .len (.tmp 12)⟩,
    ⟨(some 14), none, .mv (.const (Value.int IntKind.i64 0))⟩])
  (.blk 0 (.loop (.seq (.reg [⟨(some 15), none, .bin .lss 3 (.tmp 14) (.tmp 13) 3 0⟩])
  (.seq (.cond (.tmp 15) .skip (.exit 0))
  (.seq (.blk 1 (.seq (.reg [⟨(some 16), none, .mv (.tmp 14)⟩,
    ⟨(some 17), none, .idx none 1 (.tmp 12) (.tmp 14)⟩,
    ⟨(some 18), none, .load (.tmp 17)⟩,
    ⟨(some 6), none, .mv (.tmp 16)⟩,
    ⟨(some 7), none, .mv (.tmp 18)⟩])
  (.seq (.reg [⟨(some 19), none, .mv (.tmp 5)⟩,
    ⟨(some 20), none, .mv (.tmp 7)⟩,
    ⟨(some 21), none, .bin .and 5 (.tmp 20) (.const (Value.int IntKind.u8 127)) 5 5⟩,
    ⟨(some 22), none, .conv .i64 (.tmp 21)⟩,
    ⟨(some 23), none, .mv (.tmp 6)⟩,
    ⟨(some 24), none, .bin .mul 3 (.const (Value.int IntKind.i64 7)) (.tmp 23) 3 3⟩,
    ⟨(some 25), none, .bin .shl 3 (.tmp 22) (.tmp 24) 3 3⟩,
    ⟨(some 26), none, .bin .or 3 (.tmp 19) (.tmp 25) 3 3⟩,
    ⟨(some 5), none, .mv (.tmp 26)⟩])
  (.seq (.seq (.reg [⟨(some 27), none, .mv (.tmp 7)⟩,
    ⟨(some 28), none, .bin .and 5 (.tmp 27) (.const (Value.int IntKind.u8 128)) 5 5⟩,
    ⟨(some 29), none, .bin .neq 5 (.tmp 28) (.const (Value.int IntKind.u8 0)) 5 4⟩])
  (.cond (.tmp 29) (.exit 1) .skip))
  (.seq (.seq (.reg [⟨(some 30), none, .mv (.tmp 6)⟩,
    ⟨(some 31), none, .bin .gtr 3 (.tmp 30) (.const (Value.int IntKind.i64 0)) 3 4⟩,
    ⟨(some 32), none, .mv (.tmp 31)⟩,
    ⟨(some 33), (some (32, true)), .mv (.tmp 7)⟩,
    ⟨(some 34), (some (32, true)), .bin .eql 5 (.tmp 33) (.const (Value.int IntKind.u8 0)) 5 4⟩,
    ⟨(some 35), none, .pick (.tmp 32) (.tmp 34) (.const (Value.bool false))⟩])
  (.cond (.tmp 35) (.exit 0) .skip))
  (.seq (.reg [⟨(some 36), none, .mv (.tmp 5)⟩,
    ⟨(some 37), none, .mv (.tmp 0)⟩,
    ⟨(some 38), none, .mv (.tmp 6)⟩,
    ⟨(some 39), none, .bin .add 3 (.tmp 38) (.const (Value.int IntKind.i64 1)) 3 3⟩,
    ⟨(some 40), none, .cut 1 (.tmp 37) (some (.tmp 39)) none none⟩,
    ⟨(some 41), none, .call (.func 100) [(.tmp 40)]⟩,
    ⟨(some 2), none, .mv (.tmp 36)⟩,
    ⟨(some 3), none, .mv (.tmp 41)⟩,
    ⟨(some 4), none, .mv (.const (Value.bool true))⟩])
  .ret))))))
  (.reg [⟨(some 42), none, .bin .add 3 (.tmp 14) (.const (Value.int IntKind.i64 1)) 3 3⟩,
    ⟨(some 14), none, .mv (.tmp 42)⟩])))))))
  (.seq (.reg [⟨(some 2), none, .mv (.const (Value.int IntKind.i64 0))⟩,
    ⟨(some 3), none, .mv (.const (Value.slice none 0 0))⟩,
    ⟨(some 4), none, .mv (.const (Value.bool false))⟩])
  .ret)))), 43, [.tmp 2, .tmp 3, .tmp 4], false⟩
theorem c79 : cmpF Tryz.prog [] k79.pure 79 = some k79 := by kernel_rfl
-- (*joist/session.taker).num
def k80 : KF := ⟨(.seq (.reg [⟨(some 2), none, .mv (.const (Value.int IntKind.i64 0))⟩])
  (.seq (.reg [⟨(some 7), none, .mv (.tmp 0)⟩,
    ⟨(some 8), none, .call (.func 44) [(.tmp 7)]⟩,
    ⟨(some 9), none, .call (.func 79) [(.tmp 8)]⟩,
    ⟨(some 6), none, .mv (.tmp 9)⟩,
    ⟨(some 10), none, .ext (.tmp 6) 0⟩,
    ⟨(some 11), none, .ext (.tmp 6) 1⟩,
    ⟨(some 12), none, .ext (.tmp 6) 2⟩,
    ⟨(some 3), none, .mv (.tmp 10)⟩,
    ⟨(some 4), none, .mv (.tmp 11)⟩,
    ⟨(some 5), none, .mv (.tmp 12)⟩])
  (.seq (.reg [⟨(some 13), none, .mv (.tmp 3)⟩,
    ⟨(some 2), none, .mv (.tmp 13)⟩])
  .ret))), 14, [.tmp 2], false⟩
theorem c80 : cmpF Tryz.prog [] k80.pure 80 = some k80 := by kernel_rfl
-- joist/codec.Decode$1
def k81 : KF := ⟨(.seq (.reg [⟨(some 3), none, .bad⟩,
    ⟨(some 2), none, .mv (.tmp 3)⟩])
  (.seq (.reg [⟨(some 4), none, .mv (.tmp 2)⟩,
    ⟨(some 5), none, .bin .neq 20 (.tmp 4) (.const Value.nilIface) 20 4⟩])
  (.cond (.tmp 5) (.seq (.reg [⟨(some 6), none, .mv (.tmp 2)⟩,
    ⟨(some 7), none, .bad⟩])
  (.reg [⟨(some 8), none, .bld [Value.string { data := #[] }, Value.string { data := #[] }, Value.string { data := #[] }, Value.int IntKind.i64 0, Value.int IntKind.i64 0, Value.int IntKind.i64 0, Value.int IntKind.i64 0, Value.string { data := #[] }] [(0, 1), (1, 1), (2, 1), (3, 1), (4, 1), (5, 3)] []⟩,
    ⟨none, none, .store 8 (.tmp 0) (.tmp 8)⟩,
    ⟨none, none, .store 1 (.tmp 1) (.const (Value.bool false))⟩])) .skip))), 9, [], false⟩
theorem c81 : cmpF Tryz.prog [] k81.pure 81 = some k81 := by kernel_rfl
-- (*joist/codec.reader).cell
def k82 : KF := ⟨(.seq (.reg [⟨(some 2), none, .alloc [Value.string { data := #[] }, Value.string { data := #[] }, Value.string { data := #[] }, Value.int IntKind.i64 0, Value.int IntKind.i64 0, Value.int IntKind.i64 0, Value.int IntKind.i64 0, Value.string { data := #[] }]⟩])
  (.seq (.reg [⟨(some 3), none, .alloc [Value.string { data := #[] }, Value.string { data := #[] }, Value.string { data := #[] }, Value.int IntKind.i64 0, Value.int IntKind.i64 0, Value.int IntKind.i64 0, Value.int IntKind.i64 0, Value.string { data := #[] }]⟩])
  (.seq (.reg [⟨(some 13), none, .mv (.tmp 0)⟩,
    ⟨(some 14), none, .call (.func 101) [(.tmp 13)]⟩,
    ⟨(some 12), none, .mv (.tmp 14)⟩,
    ⟨(some 15), none, .ext (.tmp 12) 0⟩,
    ⟨(some 16), none, .ext (.tmp 12) 1⟩,
    ⟨(some 4), none, .mv (.tmp 15)⟩,
    ⟨(some 5), none, .mv (.tmp 16)⟩])
  (.seq (.reg [⟨(some 18), none, .mv (.tmp 0)⟩,
    ⟨(some 19), none, .call (.func 101) [(.tmp 18)]⟩,
    ⟨(some 17), none, .mv (.tmp 19)⟩,
    ⟨(some 20), none, .ext (.tmp 17) 0⟩,
    ⟨(some 21), none, .ext (.tmp 17) 1⟩,
    ⟨(some 6), none, .mv (.tmp 20)⟩,
    ⟨(some 7), none, .mv (.tmp 21)⟩])
  (.seq (.reg [⟨(some 23), none, .mv (.tmp 0)⟩,
    ⟨(some 24), none, .call (.func 101) [(.tmp 23)]⟩,
    ⟨(some 22), none, .mv (.tmp 24)⟩,
    ⟨(some 25), none, .ext (.tmp 22) 0⟩,
    ⟨(some 26), none, .ext (.tmp 22) 1⟩,
    ⟨(some 8), none, .mv (.tmp 25)⟩,
    ⟨(some 9), none, .mv (.tmp 26)⟩])
  (.seq (.reg [⟨(some 27), none, .mv (.tmp 5)⟩,
    ⟨(some 28), none, .not (.tmp 27)⟩,
    ⟨(some 29), none, .mv (.tmp 28)⟩,
    ⟨(some 30), (some (29, true)), .mv (.tmp 7)⟩,
    ⟨(some 31), (some (29, true)), .not (.tmp 30)⟩,
    ⟨(some 32), none, .pick (.tmp 29) (.tmp 31) (.const (Value.bool false))⟩,
    ⟨(some 33), none, .call (.func 102) [(.tmp 32)]⟩])
  (.seq (.reg [⟨(some 34), none, .mv (.tmp 4)⟩,
    ⟨(some 35), none, .mv (.tmp 6)⟩,
    ⟨(some 36), none, .mv (.tmp 8)⟩,
    ⟨(some 37), none, .fld 0 (.tmp 3)⟩,
    ⟨none, none, .store 1 (.tmp 37) (.tmp 34)⟩,
    ⟨(some 38), none, .fld 1 (.tmp 3)⟩,
    ⟨none, none, .store 1 (.tmp 38) (.tmp 35)⟩,
    ⟨(some 39), none, .fld 2 (.tmp 3)⟩,
    ⟨none, none, .store 1 (.tmp 39) (.tmp 36)⟩])
  (.seq (.reg [⟨(some 40), none, .mv (.tmp 0)⟩,
    ⟨(some 41), none, .call (.func 103) [(.tmp 40)]⟩,
    ⟨(some 42), none, .fld 3 (.tmp 3)⟩,
    ⟨none, none, .store 1 (.tmp 42) (.tmp 41)⟩])
  (.seq (.reg [⟨(some 43), none, .mv (.tmp 0)⟩,
    ⟨(some 44), none, .call (.func 104) [(.tmp 43)]⟩,
    ⟨(some 45), none, .conv .i64 (.tmp 44)⟩,
    ⟨(some 46), none, .bin .sub 3 (.const (Value.int IntKind.i64 255)) (.tmp 45) 3 3⟩,
    ⟨(some 47), none, .fld 4 (.tmp 3)⟩,
    ⟨none, none, .store 1 (.tmp 47) (.tmp 46)⟩])
  (.seq (.seq (.reg [⟨(some 48), none, .mv (.tmp 0)⟩,
    ⟨(some 49), none, .nilck (.tmp 48)⟩,
    ⟨(some 50), none, .fld 0 (.tmp 49)⟩,
    ⟨(some 51), none, .load (.tmp 50)⟩,
    ⟨(some 52), none, .len (.tmp 51)⟩,
    ⟨(some 53), none, .bin .gtr 3 (.tmp 52) (.const (Value.int IntKind.i64 0)) 3 4⟩])
  (.cond (.tmp 53) (.seq (.reg [⟨(some 55), none, .mv (.tmp 0)⟩,
    ⟨(some 56), none, .nilck (.tmp 55)⟩,
    ⟨(some 57), none, .fld 0 (.tmp 56)⟩,
    ⟨(some 58), none, .load (.tmp 57)⟩,
    ⟨(some 59), none, .call (.func 105) [(.tmp 58)]⟩,
    ⟨(some 54), none, .mv (.tmp 59)⟩,
    ⟨(some 60), none, .ext (.tmp 54) 0⟩,
    ⟨(some 61), none, .ext (.tmp 54) 1⟩,
    ⟨(some 10), none, .alloc [Value.int IntKind.i64 0, Value.int IntKind.i64 0, Value.string { data := #[] }]⟩,
    ⟨none, none, .store 3 (.tmp 10) (.tmp 60)⟩,
    ⟨(some 11), none, .mv (.tmp 61)⟩])
  (.seq (.reg [⟨(some 62), none, .mv (.tmp 11)⟩,
    ⟨(some 63), none, .call (.func 102) [(.tmp 62)]⟩])
  (.reg [⟨(some 64), none, .loadA 3 (.tmp 10)⟩,
    ⟨(some 65), none, .fld 5 (.tmp 3)⟩,
    ⟨none, none, .store 3 (.tmp 65) (.tmp 64)⟩]))) .skip))
  (.seq (.reg [⟨(some 66), none, .loadA 8 (.tmp 3)⟩,
    ⟨(some 67), none, .call (.func 32) [(.tmp 66)]⟩,
    ⟨(some 68), none, .mv (.tmp 67)⟩,
    ⟨(some 69), (some (68, true)), .mv (.tmp 9)⟩,
    ⟨(some 70), (some (68, true)), .fld 4 (.tmp 3)⟩,
    ⟨(some 71), (some (68, true)), .load (.tmp 70)⟩,
    ⟨(some 72), (some (68, true)), .bin .eql 3 (.tmp 71) (.const (Value.int IntKind.i64 4)) 3 4⟩,
    ⟨(some 73), (some (68, true)), .eqB false (.tmp 69) (.tmp 72)⟩,
    ⟨(some 74), none, .pick (.tmp 68) (.tmp 73) (.const (Value.bool false))⟩,
    ⟨(some 75), none, .call (.func 102) [(.tmp 74)]⟩])
  (.seq (.reg [⟨(some 76), none, .loadA 8 (.tmp 3)⟩,
    ⟨none, none, .store 8 (.tmp 2) (.tmp 76)⟩])
  .ret)))))))))))), 77, [.agg 2 8], false⟩
theorem c82 : cmpF Tryz.prog [] k82.pure 82 = some k82 := by kernel_rfl
-- joist/codec.Key
def k90 : KF := ⟨(.seq (.reg [⟨(some 1), none, .box (.tmp 0)⟩,
    ⟨(some 2), none, .mv (.const (Value.slice none 0 0))⟩,
    ⟨(some 3), none, .mv (.const (Value.bool false))⟩])
  (.seq (.seq (.reg [⟨(some 5), none, .loadA 8 (.tmp 1)⟩,
    ⟨(some 6), none, .call (.func 32) [(.tmp 5)]⟩,
    ⟨(some 7), none, .not (.tmp 6)⟩])
  (.cond (.tmp 7) (.seq (.reg [⟨(some 2), none, .mv (.const (Value.slice none 0 0))⟩,
    ⟨(some 3), none, .mv (.const (Value.bool false))⟩])
  .ret) .skip))
  (.seq (.reg [⟨(some 8), none, .bld [Value.slice none 0 0, Value.int IntKind.i64 0, Value.int IntKind.i8 0] [(0, 3)] []⟩,
    ⟨(some 9), none, .box (.tmp 8)⟩,
    ⟨(some 4), none, .mv (.tmp 9)⟩])
  (.seq (.reg [⟨(some 10), none, .mv (.tmp 4)⟩,
    ⟨(some 11), none, .loadA 8 (.tmp 1)⟩,
    ⟨(some 12), none, .call (.func 112) [(.tmp 10), (.tmp 11)]⟩])
  (.seq (.reg [⟨(some 13), none, .mv (.tmp 4)⟩,
    ⟨(some 14), none, .nilck (.tmp 13)⟩,
    ⟨(some 15), none, .fld 0 (.tmp 14)⟩,
    ⟨(some 16), none, .call (.func 113) [(.tmp 15)]⟩,
    ⟨(some 17), none, .call (.func 100) [(.tmp 16)]⟩,
    ⟨(some 2), none, .mv (.tmp 17)⟩,
    ⟨(some 3), none, .mv (.const (Value.bool true))⟩])
  .ret))))), 18, [.tmp 2, .tmp 3], false⟩
theorem c90 : cmpF Tryz.prog [] k90.pure 90 = some k90 := by kernel_rfl
-- joist/val.Encode
def k91 : KF := ⟨(.seq (.reg [⟨(some 1), none, .box (.tmp 0)⟩,
    ⟨(some 2), none, .mv (.const (Value.slice none 0 0))⟩,
    ⟨(some 3), none, .mv (.const (Value.bool false))⟩])
  (.seq (.seq (.reg [⟨(some 4), none, .loadA 3 (.tmp 1)⟩,
    ⟨(some 5), none, .call (.func 69) [(.tmp 4)]⟩,
    ⟨(some 6), none, .not (.tmp 5)⟩])
  (.cond (.tmp 6) (.seq (.reg [⟨(some 2), none, .mv (.const (Value.slice none 0 0))⟩,
    ⟨(some 3), none, .mv (.const (Value.bool false))⟩])
  .ret) .skip))
  (.seq (.drw [⟨(some 7), none, .fld 0 (.tmp 1)⟩,
    ⟨(some 8), none, .load (.tmp 7)⟩,
    ⟨(some 9), none, .conv .u8 (.tmp 8)⟩,
    ⟨(some 10), none, .bls 1 [Value.int IntKind.u8 0] 1 [(0, (.tmp 9))]⟩,
    ⟨(some 11), none, .loadA 3 (.tmp 1)⟩,
    ⟨(some 12), none, .call (.func 114) [(.tmp 11)]⟩,
    ⟨(some 13), none, .app 1 1 (.tmp 10) (.tmp 12)⟩,
    ⟨(some 2), none, .mv (.tmp 13)⟩,
    ⟨(some 3), none, .mv (.const (Value.bool true))⟩] [[], [0], [1], [2], [], [4], [3, 5, 5], [6, 6, 0, 1, 2, 3, 4, 5, 6], [7, 0, 1, 2, 3, 4, 5, 6, 7]] [0, 1, 2, 4, 3, 5, 6, 7, 8])
  .ret))), 14, [.tmp 2, .tmp 3], false⟩
theorem c91 : cmpF Tryz.prog [(3, [0, 1, 2, 3, 4, 5, 6, 7, 8], [0, 1, 2, 3, 4, 5, 6, 7, 8], [0, 1, 2, 4, 3, 5, 6, 7, 8])] k91.pure 91 = some k91 := by kernel_rfl
-- slices.Grow[[]byte,byte]
def k92 : KF := ⟨(.seq (.reg [⟨(some 4), none, .mv (.const (Value.slice none 0 0))⟩])
  (.seq (.seq (.reg [⟨(some 5), none, .mv (.tmp 1)⟩,
    ⟨(some 6), none, .bin .lss 3 (.tmp 5) (.const (Value.int IntKind.i64 0)) 3 4⟩])
  (.cond (.tmp 6) (.reg [⟨(some 7), none, .bad⟩,
    ⟨none, none, .bad⟩]) .skip))
  (.seq (.seq (.reg [⟨(some 8), none, .mv (.tmp 1)⟩,
    ⟨(some 9), none, .mv (.tmp 0)⟩,
    ⟨(some 10), none, .cap0 (.tmp 9)⟩,
    ⟨(some 11), none, .mv (.tmp 0)⟩,
    ⟨(some 12), none, .len (.tmp 11)⟩,
    ⟨(some 13), none, .bin .sub 3 (.tmp 10) (.tmp 12) 3 3⟩,
    ⟨(some 14), none, .bin .sub 3 (.tmp 8) (.tmp 13) 3 3⟩,
    ⟨(some 1), none, .mv (.tmp 14)⟩])
  (.seq (.reg [⟨(some 15), none, .mv (.tmp 1)⟩,
    ⟨(some 16), none, .bin .gtr 3 (.tmp 15) (.const (Value.int IntKind.i64 0)) 3 4⟩])
  (.cond (.tmp 16) (.reg [⟨(some 17), none, .mv (.tmp 0)⟩,
    ⟨(some 18), none, .mv (.tmp 0)⟩,
    ⟨(some 19), none, .cap0 (.tmp 18)⟩,
    ⟨(some 20), none, .cut 1 (.tmp 17) none (some (.tmp 19)) none⟩,
    ⟨(some 21), none, .mv (.tmp 1)⟩,
    ⟨(some 22), none, .appZ 1 1 [Value.int IntKind.u8 0] (.tmp 20) (.tmp 21)⟩,
    ⟨(some 23), none, .mv (.tmp 0)⟩,
    ⟨(some 24), none, .len (.tmp 23)⟩,
    ⟨(some 25), none, .cut 1 (.tmp 22) none (some (.tmp 24)) none⟩,
    ⟨(some 0), none, .mv (.tmp 25)⟩]) .skip)))
  (.seq (.reg [⟨(some 26), none, .mv (.tmp 0)⟩,
    ⟨(some 4), none, .mv (.tmp 26)⟩])
  .ret)))), 27, [.tmp 4], false⟩
theorem c92 : cmpF Tryz.prog [] k92.pure 92 = some k92 := by kernel_rfl
-- strings.ContainsFunc
def k94 : KF := ⟨(.seq (.reg [⟨(some 4), none, .mv (.const (Value.bool false))⟩])
  (.seq (.reg [⟨(some 5), none, .mv (.tmp 0)⟩,
    ⟨(some 6), none, .mv (.tmp 1)⟩,
    ⟨(some 7), none, .call (.func 115) [(.tmp 5), (.tmp 6)]⟩,
    ⟨(some 8), none, .bin .geq 3 (.tmp 7) (.const (Value.int IntKind.i64 0)) 3 4⟩,
    ⟨(some 4), none, .mv (.tmp 8)⟩])
  .ret)), 9, [.tmp 4], false⟩
theorem c94 : cmpF Tryz.prog [] k94.pure 94 = some k94 := by kernel_rfl
-- slices.IndexFunc[[]joist/api.Layout,joist/api.Layout]
def k98 : KF := ⟨(.seq (.reg [⟨(some 4), none, .mv (.const (Value.int IntKind.i64 0))⟩])
  (.seq (.seq (.reg [⟨(some 6), none, .mv (.tmp 0)⟩,
    ⟨(some 7), none, .len (.tmp 6)⟩,
    ⟨(some 8), none, .mv (.const (Value.int IntKind.i64 0))⟩])
  (.blk 0 (.loop (.seq (.reg [⟨(some 9), none, .bin .lss 3 (.tmp 8) (.tmp 7) 3 0⟩])
  (.seq (.cond (.tmp 9) .skip (.exit 0))
  (.seq (.blk 1 (.seq (.reg [⟨(some 10), none, .mv (.tmp 8)⟩,
    ⟨(some 5), none, .mv (.tmp 10)⟩])
  (.seq (.reg [⟨(some 11), none, .mv (.tmp 1)⟩,
    ⟨(some 12), none, .mv (.tmp 0)⟩,
    ⟨(some 13), none, .mv (.tmp 5)⟩,
    ⟨(some 14), none, .idx none 2 (.tmp 12) (.tmp 13)⟩,
    ⟨(some 15), none, .loadA 2 (.tmp 14)⟩,
    ⟨(some 16), none, .call (.tmp 11) [(.tmp 15)]⟩])
  (.cond (.tmp 16) (.seq (.reg [⟨(some 17), none, .mv (.tmp 5)⟩,
    ⟨(some 4), none, .mv (.tmp 17)⟩])
  .ret) .skip))))
  (.reg [⟨(some 18), none, .bin .add 3 (.tmp 8) (.const (Value.int IntKind.i64 1)) 3 3⟩,
    ⟨(some 8), none, .mv (.tmp 18)⟩])))))))
  (.seq (.reg [⟨(some 4), none, .mv (.const (Value.int IntKind.i64 (-1)))⟩])
  .ret))), 19, [.tmp 4], false⟩
theorem c98 : cmpF Tryz.prog [] k98.pure 98 = some k98 := by kernel_rfl
-- joist/codec.Right
def k32 : KF := ⟨(.seq (.reg [⟨(some 1), none, .box (.tmp 0)⟩,
    ⟨(some 2), none, .mv (.const (Value.bool false))⟩])
  (.seq (.seq (.reg [⟨(some 3), none, .fld 0 (.tmp 1)⟩,
    ⟨(some 4), none, .load (.tmp 3)⟩,
    ⟨(some 5), none, .bin .eql 9 (.tmp 4) (.const (Value.string { data := #[] })) 9 4⟩,
    ⟨(some 6), none, .mv (.tmp 5)⟩,
    ⟨(some 7), (some (6, false)), .fld 0 (.tmp 1)⟩,
    ⟨(some 8), (some (6, false)), .load (.tmp 7)⟩,
    ⟨(some 9), (some (6, false)), .lenS (.tmp 8)⟩,
    ⟨(some 10), (some (6, false)), .bin .gtr 3 (.tmp 9) (.const (Value.int IntKind.i64 16)) 3 4⟩,
    ⟨(some 11), none, .pick (.tmp 6) (.const (Value.bool true)) (.tmp 10)⟩,
    ⟨(some 12), none, .mv (.tmp 11)⟩,
    ⟨(some 13), (some (12, false)), .fld 1 (.tmp 1)⟩,
    ⟨(some 14), (some (12, false)), .load (.tmp 13)⟩,
    ⟨(some 15), (some (12, false)), .call (.func 68) [(.tmp 14)]⟩,
    ⟨(some 16), (some (12, false)), .not (.tmp 15)⟩,
    ⟨(some 17), none, .pick (.tmp 12) (.const (Value.bool true)) (.tmp 16)⟩,
    ⟨(some 18), none, .mv (.tmp 17)⟩,
    ⟨(some 19), (some (18, false)), .fld 2 (.tmp 1)⟩,
    ⟨(some 20), (some (18, false)), .load (.tmp 19)⟩,
    ⟨(some 21), (some (18, false)), .lenS (.tmp 20)⟩,
    ⟨(some 22), (some (18, false)), .bin .gtr 3 (.tmp 21) (.const (Value.int IntKind.i64 12)) 3 4⟩,
    ⟨(some 23), none, .pick (.tmp 18) (.const (Value.bool true)) (.tmp 22)⟩,
    ⟨(some 24), none, .mv (.tmp 23)⟩,
    ⟨(some 25), (some (24, false)), .fld 3 (.tmp 1)⟩,
    ⟨(some 26), (some (24, false)), .load (.tmp 25)⟩,
    ⟨(some 27), (some (24, false)), .bin .lss 3 (.tmp 26) (.const (Value.int IntKind.i64 0)) 3 4⟩,
    ⟨(some 28), none, .pick (.tmp 24) (.const (Value.bool true)) (.tmp 27)⟩,
    ⟨(some 29), none, .mv (.tmp 28)⟩,
    ⟨(some 30), (some (29, false)), .fld 3 (.tmp 1)⟩,
    ⟨(some 31), (some (29, false)), .load (.tmp 30)⟩,
    ⟨(some 32), (some (29, false)), .bin .gtr 3 (.tmp 31) (.const (Value.int IntKind.i64 1099511627776)) 3 4⟩,
    ⟨(some 33), none, .pick (.tmp 29) (.const (Value.bool true)) (.tmp 32)⟩])
  (.cond (.tmp 33) (.seq (.reg [⟨(some 2), none, .mv (.const (Value.bool false))⟩])
  .ret) .skip))
  (.seq (.seq (.reg [⟨(some 34), none, .fld 4 (.tmp 1)⟩,
    ⟨(some 35), none, .load (.tmp 34)⟩])
  (.blk 0 (.seq (.reg [⟨(some 37), none, .bin .eql 3 (.tmp 35) (.const (Value.int IntKind.i64 1)) 3 4⟩,
    ⟨(some 36), none, .mv (.tmp 37)⟩])
  (.cond (.tmp 36) (.seq (.reg [⟨(some 38), none, .fld 5 (.tmp 1)⟩,
    ⟨(some 39), none, .loadA 3 (.tmp 38)⟩,
    ⟨(some 40), none, .call (.func 69) [(.tmp 39)]⟩,
    ⟨(some 2), none, .mv (.tmp 40)⟩])
  .ret) (.seq (.seq (.reg [⟨(some 42), none, .bin .eql 3 (.tmp 35) (.const (Value.int IntKind.i64 2)) 3 4⟩,
    ⟨(some 41), none, .mv (.tmp 42)⟩])
  (.cond (.tmp 41) .skip (.reg [⟨(some 43), none, .bin .eql 3 (.tmp 35) (.const (Value.int IntKind.i64 3)) 3 4⟩,
    ⟨(some 41), none, .mv (.tmp 43)⟩])))
  (.cond (.tmp 41) (.seq (.reg [⟨(some 44), none, .fld 5 (.tmp 1)⟩,
    ⟨(some 45), none, .loadA 3 (.tmp 44)⟩,
    ⟨(some 46), none, .bld [Value.int IntKind.i64 0, Value.int IntKind.i64 0, Value.string { data := #[] }] [(0, 1), (1, 1), (2, 1)] []⟩,
    ⟨(some 47), none, .bin .eql 69 (.tmp 45) (.tmp 46) 69 4⟩,
    ⟨(some 2), none, .mv (.tmp 47)⟩])
  .ret) (.seq (.reg [⟨(some 49), none, .bin .eql 3 (.tmp 35) (.const (Value.int IntKind.i64 4)) 3 4⟩,
    ⟨(some 48), none, .mv (.tmp 49)⟩])
  (.cond (.tmp 48) (.seq (.reg [⟨(some 50), none, .fld 5 (.tmp 1)⟩,
    ⟨(some 51), none, .loadA 3 (.tmp 50)⟩,
    ⟨(some 52), none, .bld [Value.int IntKind.i64 0, Value.int IntKind.i64 0, Value.string { data := #[] }] [(0, 1), (1, 1), (2, 1)] []⟩,
    ⟨(some 53), none, .bin .eql 69 (.tmp 51) (.tmp 52) 69 4⟩,
    ⟨(some 54), none, .mv (.tmp 53)⟩,
    ⟨(some 55), (some (54, true)), .fld 2 (.tmp 1)⟩,
    ⟨(some 56), (some (54, true)), .load (.tmp 55)⟩,
    ⟨(some 57), (some (54, true)), .bin .eql 9 (.tmp 56) (.const (Value.string { data := #[] })) 9 4⟩,
    ⟨(some 58), none, .pick (.tmp 54) (.tmp 57) (.const (Value.bool false))⟩,
    ⟨(some 2), none, .mv (.tmp 58)⟩])
  .ret) .skip))))))))
  (.seq (.reg [⟨(some 2), none, .mv (.const (Value.bool false))⟩])
  .ret)))), 59, [.tmp 2], false⟩
theorem c32 : cmpF Tryz.prog [] k32.pure 32 = some k32 := by kernel_rfl
-- (*joist/codec.reader).text
def k101 : KF := ⟨(.seq (.reg [⟨(some 2), none, .mv (.const (Value.string { data := #[] }))⟩,
    ⟨(some 3), none, .mv (.const (Value.bool false))⟩])
  (.seq (.reg [⟨(some 4), none, .mv (.const (Value.slice none 0 0))⟩])
  (.blk 0 (.loop (.blk 1 (.seq (.reg [⟨(some 6), none, .mv (.tmp 0)⟩,
    ⟨(some 7), none, .call (.func 104) [(.tmp 6)]⟩,
    ⟨(some 5), none, .mv (.tmp 7)⟩])
  (.seq (.seq (.reg [⟨(some 8), none, .mv (.tmp 5)⟩,
    ⟨(some 9), none, .bin .neq 5 (.tmp 8) (.const (Value.int IntKind.u8 0)) 5 4⟩])
  (.cond (.tmp 9) (.seq (.reg [⟨(some 10), none, .mv (.tmp 4)⟩,
    ⟨(some 11), none, .mv (.tmp 5)⟩,
    ⟨(some 12), none, .bls 1 [Value.int IntKind.u8 0] 1 [(0, (.tmp 11))]⟩,
    ⟨(some 13), none, .app 1 1 (.tmp 10) (.tmp 12)⟩,
    ⟨(some 4), none, .mv (.tmp 13)⟩])
  (.exit 1)) .skip))
  (.seq (.reg [⟨(some 14), none, .mv (.tmp 0)⟩,
    ⟨(some 15), none, .call (.func 104) [(.tmp 14)]⟩])
  (.blk 2 (.seq (.reg [⟨(some 18), none, .bin .eql 5 (.tmp 15) (.const (Value.int IntKind.u8 1)) 5 4⟩,
    ⟨(some 17), none, .mv (.tmp 18)⟩])
  (.cond (.tmp 17) (.seq (.reg [⟨(some 19), none, .mv (.tmp 4)⟩,
    ⟨(some 20), none, .toT (.tmp 19)⟩,
    ⟨(some 2), none, .mv (.tmp 20)⟩,
    ⟨(some 3), none, .mv (.const (Value.bool false))⟩])
  .ret) (.seq (.reg [⟨(some 22), none, .bin .eql 5 (.tmp 15) (.const (Value.int IntKind.u8 0)) 5 4⟩,
    ⟨(some 21), none, .mv (.tmp 22)⟩])
  (.cond (.tmp 21) (.seq (.reg [⟨(some 23), none, .mv (.tmp 4)⟩,
    ⟨(some 24), none, .len (.tmp 23)⟩,
    ⟨(some 25), none, .bin .eql 3 (.tmp 24) (.const (Value.int IntKind.i64 0)) 3 4⟩,
    ⟨(some 26), none, .call (.func 102) [(.tmp 25)]⟩])
  (.seq (.reg [⟨(some 2), none, .mv (.const (Value.string { data := #[] }))⟩,
    ⟨(some 3), none, .mv (.const (Value.bool true))⟩])
  .ret)) (.seq (.reg [⟨(some 28), none, .bin .eql 5 (.tmp 15) (.const (Value.int IntKind.u8 255)) 5 4⟩,
    ⟨(some 27), none, .mv (.tmp 28)⟩])
  (.cond (.tmp 27) (.reg [⟨(some 29), none, .mv (.tmp 4)⟩,
    ⟨(some 30), none, .bls 1 [Value.int IntKind.u8 0] 1 [(0, (.const (Value.int IntKind.u8 0)))]⟩,
    ⟨(some 31), none, .app 1 1 (.tmp 29) (.tmp 30)⟩,
    ⟨(some 4), none, .mv (.tmp 31)⟩]) (.reg [⟨(some 16), none, .call (.func 102) [(.const (Value.bool false))]⟩])))))))))))))))), 32, [.tmp 2, .tmp 3], false⟩
theorem c101 : cmpF Tryz.prog [] k101.pure 101 = some k101 := by kernel_rfl
-- joist/codec.need
def k102 : KF := ⟨(.seq (.reg [⟨(some 2), none, .mv (.tmp 0)⟩,
    ⟨(some 3), none, .not (.tmp 2)⟩])
  (.cond (.tmp 3) (.reg [⟨(some 4), none, .bld [] [] []⟩,
    ⟨(some 5), none, .bad⟩,
    ⟨none, none, .bad⟩]) .skip)), 6, [], false⟩
theorem c102 : cmpF Tryz.prog [] k102.pure 102 = some k102 := by kernel_rfl
-- (*joist/codec.reader).time
def k103 : KF := ⟨(.seq (.reg [⟨(some 2), none, .mv (.const (Value.int IntKind.i64 0))⟩])
  (.seq (.reg [⟨(some 3), none, .mv (.const (Value.int IntKind.u64 0))⟩])
  (.seq (.seq (.reg [⟨(some 4), none, .mv (.const (Value.int IntKind.i64 0))⟩])
  (.blk 0 (.loop (.seq (.reg [⟨(some 5), none, .bin .lss 3 (.tmp 4) (.const (Value.int IntKind.i64 8)) 3 4⟩])
  (.seq (.cond (.tmp 5) .skip (.exit 0))
  (.seq (.blk 1 (.reg [⟨(some 6), none, .mv (.tmp 3)⟩,
    ⟨(some 7), none, .bin .shl 140 (.tmp 6) (.const (Value.int IntKind.u64 8)) 143 140⟩,
    ⟨(some 8), none, .mv (.tmp 0)⟩,
    ⟨(some 9), none, .call (.func 104) [(.tmp 8)]⟩,
    ⟨(some 10), none, .conv .u64 (.tmp 9)⟩,
    ⟨(some 11), none, .bin .or 140 (.tmp 7) (.tmp 10) 140 140⟩,
    ⟨(some 3), none, .mv (.tmp 11)⟩]))
  (.reg [⟨(some 12), none, .bin .add 3 (.tmp 4) (.const (Value.int IntKind.i64 1)) 3 3⟩,
    ⟨(some 4), none, .mv (.tmp 12)⟩])))))))
  (.seq (.reg [⟨(some 13), none, .mv (.tmp 3)⟩,
    ⟨(some 14), none, .bin .sub 140 (.const (Value.int IntKind.u64 9223372036854775807)) (.tmp 13) 140 140⟩,
    ⟨(some 15), none, .conv .i64 (.tmp 14)⟩,
    ⟨(some 2), none, .mv (.tmp 15)⟩])
  .ret)))), 16, [.tmp 2], false⟩
theorem c103 : cmpF Tryz.prog [] k103.pure 103 = some k103 := by kernel_rfl
-- (*joist/codec.reader).byte
def k104 : KF := ⟨(.seq (.reg [⟨(some 2), none, .mv (.const (Value.int IntKind.u8 0))⟩])
  (.seq (.reg [⟨(some 4), none, .mv (.tmp 0)⟩,
    ⟨(some 5), none, .nilck (.tmp 4)⟩,
    ⟨(some 6), none, .fld 0 (.tmp 5)⟩,
    ⟨(some 7), none, .load (.tmp 6)⟩,
    ⟨(some 8), none, .len (.tmp 7)⟩,
    ⟨(some 9), none, .bin .gtr 3 (.tmp 8) (.const (Value.int IntKind.i64 0)) 3 4⟩,
    ⟨(some 10), none, .call (.func 102) [(.tmp 9)]⟩])
  (.seq (.reg [⟨(some 11), none, .mv (.tmp 0)⟩,
    ⟨(some 12), none, .nilck (.tmp 11)⟩,
    ⟨(some 13), none, .fld 0 (.tmp 12)⟩,
    ⟨(some 14), none, .load (.tmp 13)⟩,
    ⟨(some 15), none, .idx none 1 (.tmp 14) (.const (Value.int IntKind.i64 0))⟩,
    ⟨(some 16), none, .load (.tmp 15)⟩,
    ⟨(some 3), none, .mv (.tmp 16)⟩])
  (.seq (.reg [⟨(some 17), none, .mv (.tmp 0)⟩,
    ⟨(some 18), none, .mv (.tmp 0)⟩,
    ⟨(some 19), none, .nilck (.tmp 18)⟩,
    ⟨(some 20), none, .fld 0 (.tmp 19)⟩,
    ⟨(some 21), none, .load (.tmp 20)⟩,
    ⟨(some 22), none, .cut 1 (.tmp 21) (some (.const (Value.int IntKind.i64 1))) none none⟩,
    ⟨(some 23), none, .nilck (.tmp 17)⟩,
    ⟨(some 24), none, .fld 0 (.tmp 23)⟩,
    ⟨none, none, .store 1 (.tmp 24) (.tmp 22)⟩])
  (.seq (.reg [⟨(some 25), none, .mv (.tmp 3)⟩,
    ⟨(some 2), none, .mv (.tmp 25)⟩])
  .ret))))), 26, [.tmp 2], false⟩
theorem c104 : cmpF Tryz.prog [] k104.pure 104 = some k104 := by kernel_rfl
-- joist/val.Decode
def k105 : KF := ⟨(.seq (.reg [⟨(some 2), none, .alloc [Value.int IntKind.i64 0, Value.int IntKind.i64 0, Value.string { data := #[] }]⟩,
    ⟨(some 3), none, .mv (.const (Value.bool false))⟩])
  (.seq (.seq (.reg [⟨(some 6), none, .mv (.tmp 0)⟩,
    ⟨(some 7), none, .len (.tmp 6)⟩,
    ⟨(some 8), none, .bin .eql 3 (.tmp 7) (.const (Value.int IntKind.i64 0)) 3 4⟩])
  (.cond (.tmp 8) (.seq (.reg [⟨(some 9), none, .bld [Value.int IntKind.i64 0, Value.int IntKind.i64 0, Value.string { data := #[] }] [(0, 1), (1, 1), (2, 1)] []⟩,
    ⟨none, none, .store 3 (.tmp 2) (.tmp 9)⟩,
    ⟨(some 3), none, .mv (.const (Value.bool false))⟩])
  .ret) .skip))
  (.seq (.drw [⟨(some 11), none, .mv (.tmp 0)⟩,
    ⟨(some 12), none, .idx none 1 (.tmp 11) (.const (Value.int IntKind.i64 0))⟩,
    ⟨(some 13), none, .load (.tmp 12)⟩,
    ⟨(some 14), none, .conv .i64 (.tmp 13)⟩,
    ⟨(some 15), none, .mv (.tmp 0)⟩,
    ⟨(some 16), none, .cut 1 (.tmp 15) (some (.const (Value.int IntKind.i64 1))) none none⟩,
    ⟨(some 17), none, .call (.func 118) [(.tmp 14), (.tmp 16)]⟩,
    ⟨(some 10), none, .mv (.tmp 17)⟩,
    ⟨(some 18), none, .ext (.tmp 10) 0⟩,
    ⟨(some 19), none, .ext (.tmp 10) 1⟩,
    ⟨(some 4), none, .alloc [Value.int IntKind.i64 0, Value.int IntKind.i64 0, Value.string { data := #[] }]⟩,
    ⟨none, none, .store 3 (.tmp 4) (.tmp 18)⟩,
    ⟨(some 5), none, .mv (.tmp 19)⟩] [[], [0], [1], [2], [], [4], [3, 5], [6], [7], [7], [], [10, 8, 6, 0, 1, 2, 3, 4, 5, 6, 7, 8, 10], [9, 11, 0, 1, 2, 3, 4, 5, 6, 7, 8, 9, 10, 11]] [0, 1, 2, 3, 4, 5, 6, 7, 8, 9, 10, 11, 12])
  (.seq (.seq (.reg [⟨(some 20), none, .mv (.tmp 5)⟩,
    ⟨(some 21), none, .not (.tmp 20)⟩])
  (.cond (.tmp 21) (.seq (.reg [⟨(some 22), none, .bld [Value.int IntKind.i64 0, Value.int IntKind.i64 0, Value.string { data := #[] }] [(0, 1), (1, 1), (2, 1)] []⟩,
    ⟨none, none, .store 3 (.tmp 2) (.tmp 22)⟩,
    ⟨(some 3), none, .mv (.const (Value.bool false))⟩])
  .ret) .skip))
  (.seq (.reg [⟨(some 23), none, .loadA 3 (.tmp 4)⟩,
    ⟨none, none, .store 3 (.tmp 2) (.tmp 23)⟩,
    ⟨(some 3), none, .mv (.const (Value.bool true))⟩])
  .ret))))), 24, [.agg 2 3, .tmp 3], false⟩
theorem c105 : cmpF Tryz.prog [(3, [0, 1, 2, 3, 4, 5, 6, 7, 8, 9, 10, 11, 12], [0, 1, 2, 3, 4, 5, 6, 7, 8, 10, 11, 9, 12], [0, 1, 2, 3, 4, 5, 6, 7, 8, 9, 10, 11, 12])] k105.pure 105 = some k105 := by kernel_rfl
-- (*joist/codec.writer).key
def k112 : KF := ⟨(.seq (.reg [⟨(some 3), none, .box (.tmp 1)⟩])
  (.seq (.reg [⟨(some 4), none, .mv (.tmp 0)⟩,
    ⟨(some 5), none, .fld 0 (.tmp 3)⟩,
    ⟨(some 6), none, .load (.tmp 5)⟩,
    ⟨(some 7), none, .call (.func 120) [(.tmp 4), (.tmp 6)]⟩])
  (.seq (.reg [⟨(some 8), none, .mv (.tmp 0)⟩,
    ⟨(some 9), none, .fld 1 (.tmp 3)⟩,
    ⟨(some 10), none, .load (.tmp 9)⟩,
    ⟨(some 11), none, .call (.func 120) [(.tmp 8), (.tmp 10)]⟩])
  (.seq (.seq (.reg [⟨(some 12), none, .fld 4 (.tmp 3)⟩,
    ⟨(some 13), none, .load (.tmp 12)⟩,
    ⟨(some 14), none, .bin .eql 3 (.tmp 13) (.const (Value.int IntKind.i64 4)) 3 4⟩])
  (.cond (.tmp 14) (.reg [⟨(some 15), none, .mv (.tmp 0)⟩,
    ⟨(some 16), none, .nilck (.tmp 15)⟩,
    ⟨(some 17), none, .fld 0 (.tmp 16)⟩,
    ⟨(some 18), none, .bls 1 [Value.int IntKind.u8 0] 2 [(0, (.const (Value.int IntKind.u8 0))), (1, (.const (Value.int IntKind.u8 0)))]⟩,
    ⟨(some 19), none, .call (.func 121) [(.tmp 17), (.tmp 18)]⟩]) (.reg [⟨(some 20), none, .mv (.tmp 0)⟩,
    ⟨(some 21), none, .fld 2 (.tmp 3)⟩,
    ⟨(some 22), none, .load (.tmp 21)⟩,
    ⟨(some 23), none, .call (.func 120) [(.tmp 20), (.tmp 22)]⟩])))
  (.seq (.reg [⟨(some 24), none, .mv (.tmp 0)⟩,
    ⟨(some 25), none, .fld 3 (.tmp 3)⟩,
    ⟨(some 26), none, .load (.tmp 25)⟩,
    ⟨(some 27), none, .call (.func 122) [(.tmp 24), (.tmp 26)]⟩])
  (.drw [⟨(some 28), none, .mv (.tmp 0)⟩,
    ⟨(some 29), none, .nilck (.tmp 28)⟩,
    ⟨(some 30), none, .fld 0 (.tmp 29)⟩,
    ⟨(some 31), none, .fld 4 (.tmp 3)⟩,
    ⟨(some 32), none, .load (.tmp 31)⟩,
    ⟨(some 33), none, .bin .sub 3 (.const (Value.int IntKind.i64 255)) (.tmp 32) 3 3⟩,
    ⟨(some 34), none, .conv .u8 (.tmp 33)⟩,
    ⟨(some 35), none, .call (.func 123) [(.tmp 30), (.tmp 34)]⟩] [[], [0], [1], [], [3], [4], [5], [2, 6]] [0, 1, 2, 3, 4, 5, 6, 7])))))), 36, [], false⟩
theorem c112 : cmpF Tryz.prog [(7, [0, 1, 2, 3, 4, 5, 6, 7], [0, 1, 2, 3, 4, 5, 6, 7], [0, 1, 2, 3, 4, 5, 6, 7])] k112.pure 112 = some k112 := by kernel_rfl
-- (*bytes.Buffer).Bytes
def k113 : KF := ⟨(.seq (.reg [⟨(some 2), none, .mv (.const (Value.slice none 0 0))⟩])
  (.seq (.drw [⟨(some 3), none, .mv (.tmp 0)⟩,
    ⟨(some 4), none, .nilck (.tmp 3)⟩,
    ⟨(some 5), none, .fld 0 (.tmp 4)⟩,
    ⟨(some 6), none, .load (.tmp 5)⟩,
    ⟨(some 7), none, .mv (.tmp 0)⟩,
    ⟨(some 8), none, .nilck (.tmp 7)⟩,
    ⟨(some 9), none, .fld 1 (.tmp 8)⟩,
    ⟨(some 10), none, .load (.tmp 9)⟩,
    ⟨(some 11), none, .cut 1 (.tmp 6) (some (.tmp 10)) none none⟩,
    ⟨(some 2), none, .mv (.tmp 11)⟩] [[], [0], [1], [2], [], [4], [5], [6], [3, 7], [8, 0, 1, 2, 3, 4, 5, 6, 7, 8]] [0, 1, 2, 3, 4, 5, 6, 7, 8, 9])
  .ret)), 12, [.tmp 2], false⟩
theorem c113 : cmpF Tryz.prog [(1, [0, 1, 2, 3, 4, 5, 6, 7, 8, 9], [0, 1, 2, 3, 4, 5, 6, 7, 8, 9], [0, 1, 2, 3, 4, 5, 6, 7, 8, 9])] k113.pure 113 = some k113 := by kernel_rfl
-- joist/val.Right
def k69 : KF := ⟨(.seq (.reg [⟨(some 1), none, .box (.tmp 0)⟩,
    ⟨(some 2), none, .mv (.const (Value.bool false))⟩])
  (.seq (.seq (.reg [⟨(some 3), none, .fld 0 (.tmp 1)⟩,
    ⟨(some 4), none, .load (.tmp 3)⟩])
  (.blk 0 (.seq (.reg [⟨(some 6), none, .bin .eql 3 (.tmp 4) (.const (Value.int IntKind.i64 1)) 3 4⟩,
    ⟨(some 5), none, .mv (.tmp 6)⟩])
  (.cond (.tmp 5) (.seq (.reg [⟨(some 7), none, .fld 2 (.tmp 1)⟩,
    ⟨(some 8), none, .load (.tmp 7)⟩,
    ⟨(some 9), none, .bin .eql 9 (.tmp 8) (.const (Value.string { data := #[] })) 9 4⟩,
    ⟨(some 2), none, .mv (.tmp 9)⟩])
  .ret) (.seq (.reg [⟨(some 11), none, .bin .eql 3 (.tmp 4) (.const (Value.int IntKind.i64 4)) 3 4⟩,
    ⟨(some 10), none, .mv (.tmp 11)⟩])
  (.cond (.tmp 10) (.seq (.reg [⟨(some 12), none, .fld 2 (.tmp 1)⟩,
    ⟨(some 13), none, .load (.tmp 12)⟩,
    ⟨(some 14), none, .bin .eql 9 (.tmp 13) (.const (Value.string { data := #[] })) 9 4⟩,
    ⟨(some 15), none, .mv (.tmp 14)⟩,
    ⟨(some 16), (some (15, true)), .fld 1 (.tmp 1)⟩,
    ⟨(some 17), (some (15, true)), .load (.tmp 16)⟩,
    ⟨(some 18), (some (15, true)), .bin .andNot 3 (.tmp 17) (.const (Value.int IntKind.i64 1)) 3 3⟩,
    ⟨(some 19), (some (15, true)), .bin .eql 3 (.tmp 18) (.const (Value.int IntKind.i64 0)) 3 4⟩,
    ⟨(some 20), none, .pick (.tmp 15) (.tmp 19) (.const (Value.bool false))⟩,
    ⟨(some 2), none, .mv (.tmp 20)⟩])
  .ret) (.seq (.reg [⟨(some 22), none, .bin .eql 3 (.tmp 4) (.const (Value.int IntKind.i64 5)) 3 4⟩,
    ⟨(some 21), none, .mv (.tmp 22)⟩])
  (.cond (.tmp 21) (.seq (.reg [⟨(some 23), none, .fld 2 (.tmp 1)⟩,
    ⟨(some 24), none, .load (.tmp 23)⟩,
    ⟨(some 25), none, .bin .eql 9 (.tmp 24) (.const (Value.string { data := #[] })) 9 4⟩,
    ⟨(some 26), none, .mv (.tmp 25)⟩,
    ⟨(some 27), (some (26, true)), .fld 1 (.tmp 1)⟩,
    ⟨(some 28), (some (26, true)), .load (.tmp 27)⟩,
    ⟨(some 29), (some (26, true)), .call (.func 95) [(.tmp 28)]⟩,
    ⟨(some 30), none, .pick (.tmp 26) (.tmp 29) (.const (Value.bool false))⟩,
    ⟨(some 2), none, .mv (.tmp 30)⟩])
  .ret) (.seq (.seq (.reg [⟨(some 32), none, .bin .eql 3 (.tmp 4) (.const (Value.int IntKind.i64 2)) 3 4⟩,
    ⟨(some 31), none, .mv (.tmp 32)⟩])
  (.cond (.tmp 31) .skip (.reg [⟨(some 33), none, .bin .eql 3 (.tmp 4) (.const (Value.int IntKind.i64 3)) 3 4⟩,
    ⟨(some 31), none, .mv (.tmp 33)⟩])))
  (.cond (.tmp 31) (.seq (.reg [⟨(some 34), none, .fld 1 (.tmp 1)⟩,
    ⟨(some 35), none, .load (.tmp 34)⟩,
    ⟨(some 36), none, .bin .eql 3 (.tmp 35) (.const (Value.int IntKind.i64 0)) 3 4⟩,
    ⟨(some 37), none, .mv (.tmp 36)⟩,
    ⟨(some 38), (some (37, true)), .fld 2 (.tmp 1)⟩,
    ⟨(some 39), (some (37, true)), .load (.tmp 38)⟩,
    ⟨(some 40), (some (37, true)), .lenS (.tmp 39)⟩,
    ⟨(some 41), (some (37, true)), .bin .leq 3 (.tmp 40) (.const (Value.int IntKind.i64 32)) 3 4⟩,
    ⟨(some 42), none, .pick (.tmp 37) (.tmp 41) (.const (Value.bool false))⟩,
    ⟨(some 43), none, .mv (.tmp 42)⟩,
    ⟨(some 44), (some (43, true)), .fld 0 (.tmp 1)⟩,
    ⟨(some 45), (some (43, true)), .load (.tmp 44)⟩,
    ⟨(some 46), (some (43, true)), .bin .eql 3 (.tmp 45) (.const (Value.int IntKind.i64 2)) 3 4⟩,
    ⟨(some 47), (some (43, true)), .mv (.tmp 46)⟩,
    ⟨(some 48), (some (47, false)), .fld 2 (.tmp 1)⟩,
    ⟨(some 49), (some (47, false)), .load (.tmp 48)⟩,
    ⟨(some 50), (some (47, false)), .call (.func 96) [(.tmp 49)]⟩,
    ⟨(some 51), (some (43, true)), .pick (.tmp 47) (.const (Value.bool true)) (.tmp 50)⟩,
    ⟨(some 52), none, .pick (.tmp 43) (.tmp 51) (.const (Value.bool false))⟩,
    ⟨(some 2), none, .mv (.tmp 52)⟩])
  .ret) .skip))))))))))
  (.seq (.reg [⟨(some 2), none, .mv (.const (Value.bool false))⟩])
  .ret))), 53, [.tmp 2], false⟩
theorem c69 : cmpF Tryz.prog [] k69.pure 69 = some k69 := by kernel_rfl
-- joist/val.plain
def k114 : KF := ⟨(.seq (.reg [⟨(some 1), none, .box (.tmp 0)⟩,
    ⟨(some 2), none, .mv (.const (Value.slice none 0 0))⟩])
  (.seq (.seq (.reg [⟨(some 3), none, .fld 0 (.tmp 1)⟩,
    ⟨(some 4), none, .load (.tmp 3)⟩])
  (.blk 0 (.seq (.reg [⟨(some 6), none, .bin .eql 3 (.tmp 4) (.const (Value.int IntKind.i64 1)) 3 4⟩,
    ⟨(some 5), none, .mv (.tmp 6)⟩])
  (.cond (.tmp 5) (.seq (.reg [⟨(some 7), none, .fld 1 (.tmp 1)⟩,
    ⟨(some 8), none, .load (.tmp 7)⟩,
    ⟨(some 9), none, .conv .u64 (.tmp 8)⟩,
    ⟨(some 10), none, .bin .xor 140 (.tmp 9) (.const (Value.int IntKind.u64 9223372036854775808)) 140 140⟩,
    ⟨(some 11), none, .call (.func 124) [(.tmp 10)]⟩,
    ⟨(some 2), none, .mv (.tmp 11)⟩])
  .ret) (.seq (.reg [⟨(some 13), none, .bin .eql 3 (.tmp 4) (.const (Value.int IntKind.i64 5)) 3 4⟩,
    ⟨(some 12), none, .mv (.tmp 13)⟩])
  (.cond (.tmp 12) (.seq (.reg [⟨(some 14), none, .fld 1 (.tmp 1)⟩,
    ⟨(some 15), none, .load (.tmp 14)⟩,
    ⟨(some 16), none, .call (.func 125) [(.tmp 15)]⟩,
    ⟨(some 2), none, .mv (.tmp 16)⟩])
  .ret) (.seq (.reg [⟨(some 18), none, .bin .eql 3 (.tmp 4) (.const (Value.int IntKind.i64 4)) 3 4⟩,
    ⟨(some 17), none, .mv (.tmp 18)⟩])
  (.cond (.tmp 17) (.seq (.reg [⟨(some 19), none, .fld 1 (.tmp 1)⟩,
    ⟨(some 20), none, .load (.tmp 19)⟩,
    ⟨(some 21), none, .conv .u8 (.tmp 20)⟩,
    ⟨(some 22), none, .bls 1 [Value.int IntKind.u8 0] 1 [(0, (.tmp 21))]⟩,
    ⟨(some 2), none, .mv (.tmp 22)⟩])
  .ret) .skip))))))))
  (.seq (.reg [⟨(some 23), none, .fld 2 (.tmp 1)⟩,
    ⟨(some 24), none, .load (.tmp 23)⟩,
    ⟨(some 25), none, .call (.func 126) [(.tmp 24)]⟩,
    ⟨(some 2), none, .mv (.tmp 25)⟩])
  .ret))), 26, [.tmp 2], false⟩
theorem c114 : cmpF Tryz.prog [] k114.pure 114 = some k114 := by kernel_rfl
-- strings.IndexFunc
def k115 : KF := ⟨(.seq (.reg [⟨(some 4), none, .mv (.const (Value.int IntKind.i64 0))⟩])
  (.seq (.reg [⟨(some 5), none, .mv (.tmp 0)⟩,
    ⟨(some 6), none, .mv (.tmp 1)⟩,
    ⟨(some 7), none, .call (.func 127) [(.tmp 5), (.tmp 6), (.const (Value.bool true))]⟩,
    ⟨(some 4), none, .mv (.tmp 7)⟩])
  .ret)), 8, [.tmp 4], false⟩
theorem c115 : cmpF Tryz.prog [] k115.pure 115 = some k115 := by kernel_rfl
-- joist/codec.name
def k68 : KF := ⟨(.seq (.reg [⟨(some 2), none, .mv (.const (Value.bool false))⟩])
  (.seq (.reg [⟨(some 3), none, .mv (.func 93)⟩])
  (.seq (.reg [⟨(some 4), none, .mv (.tmp 0)⟩,
    ⟨(some 5), none, .bin .neq 9 (.tmp 4) (.const (Value.string { data := #[] })) 9 4⟩,
    ⟨(some 6), none, .mv (.tmp 5)⟩,
    ⟨(some 7), (some (6, true)), .mv (.tmp 0)⟩,
    ⟨(some 8), (some (6, true)), .lenS (.tmp 7)⟩,
    ⟨(some 9), (some (6, true)), .bin .leq 3 (.tmp 8) (.const (Value.int IntKind.i64 8)) 3 4⟩,
    ⟨(some 10), none, .pick (.tmp 6) (.tmp 9) (.const (Value.bool false))⟩,
    ⟨(some 11), none, .mv (.tmp 10)⟩,
    ⟨(some 12), (some (11, true)), .mv (.tmp 0)⟩,
    ⟨(some 13), (some (11, true)), .mv (.tmp 3)⟩,
    ⟨(some 14), (some (11, true)), .call (.func 94) [(.tmp 12), (.tmp 13)]⟩,
    ⟨(some 15), (some (11, true)), .not (.tmp 14)⟩,
    ⟨(some 16), none, .pick (.tmp 11) (.tmp 15) (.const (Value.bool false))⟩,
    ⟨(some 2), none, .mv (.tmp 16)⟩])
  .ret))), 17, [.tmp 2], true⟩
theorem c68 : cmpF Tryz.prog [] k68.pure 68 = some k68 := by kernel_rfl
-- joist/val.taken
def k118 : KF := ⟨(.seq (.reg [⟨(some 4), none, .alloc [Value.int IntKind.i64 0, Value.int IntKind.i64 0, Value.string { data := #[] }]⟩,
    ⟨(some 5), none, .mv (.const (Value.bool false))⟩])
  (.seq (.reg [⟨(some 11), none, .mv (.tmp 0)⟩,
    ⟨(some 12), none, .bld [Value.int IntKind.i64 0, Value.int IntKind.i64 0, Value.string { data := #[] }] [(0, 1), (1, 1), (2, 1)] [(0, (.tmp 11))]⟩,
    ⟨(some 6), none, .alloc [Value.int IntKind.i64 0, Value.int IntKind.i64 0, Value.string { data := #[] }]⟩,
    ⟨none, none, .store 3 (.tmp 6) (.tmp 12)⟩])
  (.seq (.reg [⟨(some 7), none, .mv (.const (Value.bool true))⟩])
  (.seq (.seq (.reg [⟨(some 13), none, .mv (.tmp 0)⟩])
  (.blk 0 (.seq (.reg [⟨(some 21), none, .bin .eql 3 (.tmp 13) (.const (Value.int IntKind.i64 1)) 3 4⟩,
    ⟨(some 20), none, .mv (.tmp 21)⟩])
  (.cond (.tmp 20) (.seq (.reg [⟨(some 8), none, .mv (.const (Value.int IntKind.u64 0))⟩])
  (.seq (.seq (.reg [⟨(some 22), none, .mv (.tmp 1)⟩,
    ⟨(some 23), none, .len (.tmp 22)⟩,
    ⟨(some 24), none, .mv (.const (Value.int IntKind.i64 0))⟩])
  (.blk 1 (.loop (.seq (.reg [⟨(some 25), none, .bin .lss 3 (.tmp 24) (.tmp 23) 3 0⟩])
  (.seq (.cond (.tmp 25) .skip (.exit 1))
  (.seq (.blk 2 (.seq (.reg [⟨(some 26), none, .idx none 1 (.tmp 22) (.tmp 24)⟩,
    ⟨(some 27), none, .load (.tmp 26)⟩,
    ⟨(some 10), none, .mv (.tmp 27)⟩])
  (.reg [⟨(some 28), none, .mv (.tmp 8)⟩,
    ⟨(some 29), none, .bin .shl 140 (.tmp 28) (.const (Value.int IntKind.u64 8)) 143 140⟩,
    ⟨(some 30), none, .mv (.tmp 10)⟩,
    ⟨(some 31), none, .conv .u64 (.tmp 30)⟩,
    ⟨(some 32), none, .bin .or 140 (.tmp 29) (.tmp 31) 140 140⟩,
    ⟨(some 8), none, .mv (.tmp 32)⟩])))
  (.reg [⟨(some 33), none, .bin .add 3 (.tmp 24) (.const (Value.int IntKind.i64 1)) 3 3⟩,
    ⟨(some 24), none, .mv (.tmp 33)⟩])))))))
  (.reg [⟨(some 34), none, .mv (.tmp 8)⟩,
    ⟨(some 35), none, .bin .xor 140 (.tmp 34) (.const (Value.int IntKind.u64 9223372036854775808)) 140 140⟩,
    ⟨(some 36), none, .conv .i64 (.tmp 35)⟩,
    ⟨(some 37), none, .mv (.tmp 1)⟩,
    ⟨(some 38), none, .len (.tmp 37)⟩,
    ⟨(some 39), none, .bin .eql 3 (.tmp 38) (.const (Value.int IntKind.i64 8)) 3 4⟩,
    ⟨(some 40), none, .fld 1 (.tmp 6)⟩,
    ⟨none, none, .store 1 (.tmp 40) (.tmp 36)⟩,
    ⟨(some 7), none, .mv (.tmp 39)⟩]))) (.seq (.reg [⟨(some 42), none, .bin .eql 3 (.tmp 13) (.const (Value.int IntKind.i64 5)) 3 4⟩,
    ⟨(some 41), none, .mv (.tmp 42)⟩])
  (.cond (.tmp 41) (.reg [⟨(some 44), none, .mv (.tmp 1)⟩,
    ⟨(some 45), none, .call (.func 128) [(.tmp 44)]⟩,
    ⟨(some 43), none, .mv (.tmp 45)⟩,
    ⟨(some 46), none, .ext (.tmp 43) 0⟩,
    ⟨(some 47), none, .ext (.tmp 43) 1⟩,
    ⟨(some 48), none, .fld 1 (.tmp 6)⟩,
    ⟨none, none, .store 1 (.tmp 48) (.tmp 46)⟩,
    ⟨(some 7), none, .mv (.tmp 47)⟩]) (.seq (.reg [⟨(some 50), none, .bin .eql 3 (.tmp 13) (.const (Value.int IntKind.i64 4)) 3 4⟩,
    ⟨(some 49), none, .mv (.tmp 50)⟩])
  (.cond (.tmp 49) (.seq (.reg [⟨(some 51), none, .mv (.tmp 1)⟩,
    ⟨(some 52), none, .len (.tmp 51)⟩,
    ⟨(some 53), none, .bin .eql 3 (.tmp 52) (.const (Value.int IntKind.i64 1)) 3 4⟩,
    ⟨(some 7), none, .mv (.tmp 53)⟩])
  (.seq (.reg [⟨(some 54), none, .mv (.tmp 7)⟩])
  (.cond (.tmp 54) (.reg [⟨(some 55), none, .mv (.tmp 1)⟩,
    ⟨(some 56), none, .idx none 1 (.tmp 55) (.const (Value.int IntKind.i64 0))⟩,
    ⟨(some 57), none, .load (.tmp 56)⟩,
    ⟨(some 58), none, .conv .i64 (.tmp 57)⟩,
    ⟨(some 59), none, .fld 1 (.tmp 6)⟩,
    ⟨none, none, .store 1 (.tmp 59) (.tmp 58)⟩]) .skip))) (.reg [⟨(some 15), none, .mv (.tmp 1)⟩,
    ⟨(some 16), none, .call (.func 129) [(.tmp 15)]⟩,
    ⟨(some 14), none, .mv (.tmp 16)⟩,
    ⟨(some 17), none, .ext (.tmp 14) 0⟩,
    ⟨(some 18), none, .ext (.tmp 14) 1⟩,
    ⟨(some 19), none, .fld 2 (.tmp 6)⟩,
    ⟨none, none, .store 1 (.tmp 19) (.tmp 17)⟩,
    ⟨(some 7), none, .mv (.tmp 18)⟩])))))))))
  (.seq (.drw [⟨(some 60), none, .loadA 3 (.tmp 6)⟩,
    ⟨(some 61), none, .mv (.tmp 7)⟩,
    ⟨(some 62), none, .mv (.tmp 61)⟩,
    ⟨(some 63), (some (62, true)), .loadA 3 (.tmp 6)⟩,
    ⟨(some 64), (some (62, true)), .call (.func 69) [(.tmp 63)]⟩,
    ⟨(some 65), none, .pick (.tmp 62) (.tmp 64) (.const (Value.bool false))⟩,
    ⟨none, none, .store 3 (.tmp 4) (.tmp 60)⟩,
    ⟨(some 5), none, .mv (.tmp 65)⟩] [[], [], [1], [2], [3, 2, 2], [2, 4], [0, 4, 0], [5, 6, 0, 1, 2, 3, 4, 5, 6]] [0, 1, 2, 3, 4, 5, 6, 7])
  .ret))))), 66, [.agg 4 3, .tmp 5], false⟩
theorem c118 : cmpF Tryz.prog [(19, [0, 1, 2, 3, 4, 5, 6, 7], [0, 1, 2, 3, 4, 6, 5, 7], [0, 1, 2, 3, 4, 5, 6, 7])] k118.pure 118 = some k118 := by kernel_rfl
-- (*joist/codec.writer).text
def k120 : KF := ⟨(.seq (.seq (.reg [⟨(some 6), none, .mv (.tmp 1)⟩,
    ⟨(some 7), none, .toB (.tmp 6)⟩,
    ⟨(some 8), none, .len (.tmp 7)⟩,
    ⟨(some 9), none, .mv (.const (Value.int IntKind.i64 0))⟩])
  (.blk 0 (.loop (.seq (.reg [⟨(some 10), none, .bin .lss 3 (.tmp 9) (.tmp 8) 3 0⟩])
  (.seq (.cond (.tmp 10) .skip (.exit 0))
  (.seq (.blk 1 (.seq (.reg [⟨(some 11), none, .idx none 1 (.tmp 7) (.tmp 9)⟩,
    ⟨(some 12), none, .load (.tmp 11)⟩,
    ⟨(some 5), none, .mv (.tmp 12)⟩])
  (.seq (.reg [⟨(some 13), none, .mv (.tmp 0)⟩,
    ⟨(some 14), none, .nilck (.tmp 13)⟩,
    ⟨(some 15), none, .fld 0 (.tmp 14)⟩,
    ⟨(some 16), none, .mv (.tmp 5)⟩,
    ⟨(some 17), none, .call (.func 123) [(.tmp 15), (.tmp 16)]⟩])
  (.seq (.reg [⟨(some 18), none, .mv (.tmp 5)⟩,
    ⟨(some 19), none, .bin .eql 5 (.tmp 18) (.const (Value.int IntKind.u8 0)) 5 4⟩])
  (.cond (.tmp 19) (.reg [⟨(some 20), none, .mv (.tmp 0)⟩,
    ⟨(some 21), none, .nilck (.tmp 20)⟩,
    ⟨(some 22), none, .fld 0 (.tmp 21)⟩,
    ⟨(some 23), none, .call (.func 123) [(.tmp 22), (.const (Value.int IntKind.u8 255))]⟩]) .skip)))))
  (.reg [⟨(some 24), none, .bin .add 3 (.tmp 9) (.const (Value.int IntKind.i64 1)) 3 3⟩,
    ⟨(some 9), none, .mv (.tmp 24)⟩])))))))
  (.reg [⟨(some 25), none, .mv (.tmp 0)⟩,
    ⟨(some 26), none, .nilck (.tmp 25)⟩,
    ⟨(some 27), none, .fld 0 (.tmp 26)⟩,
    ⟨(some 28), none, .bls 1 [Value.int IntKind.u8 0] 2 [(0, (.const (Value.int IntKind.u8 0))), (1, (.const (Value.int IntKind.u8 1)))]⟩,
    ⟨(some 29), none, .call (.func 121) [(.tmp 27), (.tmp 28)]⟩])), 30, [], false⟩
theorem c120 : cmpF Tryz.prog [] k120.pure 120 = some k120 := by kernel_rfl
-- (*bytes.Buffer).Write
def k121 : KF := ⟨(.seq (.reg [⟨(some 4), none, .mv (.const (Value.int IntKind.i64 0))⟩,
    ⟨(some 5), none, .mv (.const Value.nilIface)⟩])
  (.seq (.reg [⟨(some 8), none, .mv (.tmp 0)⟩,
    ⟨(some 9), none, .nilck (.tmp 8)⟩,
    ⟨(some 10), none, .fld 2 (.tmp 9)⟩,
    ⟨none, none, .store 1 (.tmp 10) (.const (Value.int IntKind.i8 0))⟩])
  (.seq (.reg [⟨(some 12), none, .mv (.tmp 0)⟩,
    ⟨(some 13), none, .mv (.tmp 1)⟩,
    ⟨(some 14), none, .len (.tmp 13)⟩,
    ⟨(some 15), none, .call (.func 130) [(.tmp 12), (.tmp 14)]⟩,
    ⟨(some 11), none, .mv (.tmp 15)⟩,
    ⟨(some 16), none, .ext (.tmp 11) 0⟩,
    ⟨(some 17), none, .ext (.tmp 11) 1⟩,
    ⟨(some 6), none, .mv (.tmp 16)⟩,
    ⟨(some 7), none, .mv (.tmp 17)⟩])
  (.seq (.seq (.reg [⟨(some 18), none, .mv (.tmp 7)⟩,
    ⟨(some 19), none, .not (.tmp 18)⟩])
  (.cond (.tmp 19) (.reg [⟨(some 20), none, .mv (.tmp 0)⟩,
    ⟨(some 21), none, .mv (.tmp 1)⟩,
    ⟨(some 22), none, .len (.tmp 21)⟩,
    ⟨(some 23), none, .call (.func 131) [(.tmp 20), (.tmp 22)]⟩,
    ⟨(some 6), none, .mv (.tmp 23)⟩]) .skip))
  (.seq (.reg [⟨(some 24), none, .mv (.tmp 0)⟩,
    ⟨(some 25), none, .nilck (.tmp 24)⟩,
    ⟨(some 26), none, .fld 0 (.tmp 25)⟩,
    ⟨(some 27), none, .load (.tmp 26)⟩,
    ⟨(some 28), none, .mv (.tmp 6)⟩,
    ⟨(some 29), none, .cut 1 (.tmp 27) (some (.tmp 28)) none none⟩,
    ⟨(some 30), none, .mv (.tmp 1)⟩,
    ⟨(some 31), none, .bad⟩,
    ⟨(some 4), none, .mv (.tmp 31)⟩,
    ⟨(some 5), none, .mv (.const Value.nilIface)⟩])
  .ret))))), 32, [.tmp 4, .tmp 5], false⟩
theorem c121 : cmpF Tryz.prog [] k121.pure 121 = some k121 := by kernel_rfl
-- (*joist/codec.writer).time
def k122 : KF := ⟨(.seq (.reg [⟨(some 6), none, .mv (.tmp 1)⟩,
    ⟨(some 7), none, .bin .sub 3 (.const (Value.int IntKind.i64 9223372036854775807)) (.tmp 6) 3 3⟩,
    ⟨(some 8), none, .conv .u64 (.tmp 7)⟩,
    ⟨(some 4), none, .mv (.tmp 8)⟩])
  (.seq (.reg [⟨(some 9), none, .mv (.const (Value.int IntKind.i64 0))⟩])
  (.blk 0 (.loop (.seq (.reg [⟨(some 10), none, .bin .lss 3 (.tmp 9) (.const (Value.int IntKind.i64 8)) 3 4⟩])
  (.seq (.cond (.tmp 10) .skip (.exit 0))
  (.seq (.blk 1 (.seq (.reg [⟨(some 11), none, .mv (.tmp 9)⟩,
    ⟨(some 5), none, .mv (.tmp 11)⟩])
  (.drw [⟨(some 12), none, .mv (.tmp 0)⟩,
    ⟨(some 13), none, .nilck (.tmp 12)⟩,
    ⟨(some 14), none, .fld 0 (.tmp 13)⟩,
    ⟨(some 15), none, .mv (.tmp 4)⟩,
    ⟨(some 16), none, .mv (.tmp 5)⟩,
    ⟨(some 17), none, .bin .sub 3 (.const (Value.int IntKind.i64 7)) (.tmp 16) 3 3⟩,
    ⟨(some 18), none, .bin .mul 3 (.const (Value.int IntKind.i64 8)) (.tmp 17) 3 3⟩,
    ⟨(some 19), none, .bin .shr 140 (.tmp 15) (.tmp 18) 3 140⟩,
    ⟨(some 20), none, .conv .u8 (.tmp 19)⟩,
    ⟨(some 21), none, .call (.func 123) [(.tmp 14), (.tmp 20)]⟩] [[], [0], [1], [], [], [4], [5], [3, 6], [7], [2, 8]] [0, 1, 2, 3, 4, 5, 6, 7, 8, 9])))
  (.reg [⟨(some 22), none, .bin .add 3 (.tmp 9) (.const (Value.int IntKind.i64 1)) 3 3⟩,
    ⟨(some 9), none, .mv (.tmp 22)⟩])))))))), 23, [], false⟩
theorem c122 : cmpF Tryz.prog [(4, [0, 1, 2, 3, 4, 5, 6, 7, 8, 9], [0, 1, 2, 3, 4, 5, 6, 7, 8, 9], [0, 1, 2, 3, 4, 5, 6, 7, 8, 9])] k122.pure 122 = some k122 := by kernel_rfl
-- (*bytes.Buffer).WriteByte
def k123 : KF := ⟨(.seq (.reg [⟨(some 4), none, .mv (.const Value.nilIface)⟩])
  (.seq (.reg [⟨(some 7), none, .mv (.tmp 0)⟩,
    ⟨(some 8), none, .nilck (.tmp 7)⟩,
    ⟨(some 9), none, .fld 2 (.tmp 8)⟩,
    ⟨none, none, .store 1 (.tmp 9) (.const (Value.int IntKind.i8 0))⟩])
  (.seq (.reg [⟨(some 11), none, .mv (.tmp 0)⟩,
    ⟨(some 12), none, .call (.func 130) [(.tmp 11), (.const (Value.int IntKind.i64 1))]⟩,
    ⟨(some 10), none, .mv (.tmp 12)⟩,
    ⟨(some 13), none, .ext (.tmp 10) 0⟩,
    ⟨(some 14), none, .ext (.tmp 10) 1⟩,
    ⟨(some 5), none, .mv (.tmp 13)⟩,
    ⟨(some 6), none, .mv (.tmp 14)⟩])
  (.seq (.seq (.reg [⟨(some 15), none, .mv (.tmp 6)⟩,
    ⟨(some 16), none, .not (.tmp 15)⟩])
  (.cond (.tmp 16) (.reg [⟨(some 17), none, .mv (.tmp 0)⟩,
    ⟨(some 18), none, .call (.func 131) [(.tmp 17), (.const (Value.int IntKind.i64 1))]⟩,
    ⟨(some 5), none, .mv (.tmp 18)⟩]) .skip))
  (.seq (.reg [⟨(some 19), none, .mv (.tmp 0)⟩,
    ⟨(some 20), none, .nilck (.tmp 19)⟩,
    ⟨(some 21), none, .fld 0 (.tmp 20)⟩,
    ⟨(some 22), none, .load (.tmp 21)⟩,
    ⟨(some 23), none, .mv (.tmp 5)⟩,
    ⟨(some 24), none, .mv (.tmp 1)⟩,
    ⟨(some 25), none, .idx none 1 (.tmp 22) (.tmp 23)⟩,
    ⟨none, none, .store 1 (.tmp 25) (.tmp 24)⟩])
  (.seq (.reg [⟨(some 4), none, .mv (.const Value.nilIface)⟩])
  .ret)))))), 26, [.tmp 4], false⟩
theorem c123 : cmpF Tryz.prog [] k123.pure 123 = some k123 := by kernel_rfl
-- joist/float.Right
def k95 : KF := ⟨(.seq (.reg [⟨(some 2), none, .mv (.const (Value.bool false))⟩])
  (.seq (.reg [⟨(some 3), none, .mv (.tmp 0)⟩,
    ⟨(some 4), none, .conv .u64 (.tmp 3)⟩,
    ⟨(some 5), none, .call (.func 116) [(.tmp 4)]⟩,
    ⟨(some 2), none, .mv (.tmp 5)⟩])
  .ret)), 6, [.tmp 2], false⟩
theorem c95 : cmpF Tryz.prog [] k95.pure 95 = some k95 := by kernel_rfl
-- unicode/utf8.ValidString
def k96 : KF := ⟨(.seq (.reg [⟨(some 2), none, .mv (.const (Value.bool false))⟩])
  (.seq (.blk 0 (.loop (.seq (.seq (.reg [⟨(some 7), none, .mv (.tmp 0)⟩,
    ⟨(some 8), none, .lenS (.tmp 7)⟩,
    ⟨(some 9), none, .bin .gtr 3 (.tmp 8) (.const (Value.int IntKind.i64 0)) 3 4⟩])
  (.cond (.tmp 9) .skip (.exit 0)))
  (.blk 1 (.seq (.reg [⟨(some 10), none, .mv (.tmp 0)⟩,
    ⟨(some 11), none, .idxS (.tmp 10) (.const (Value.int IntKind.i64 0))⟩,
    ⟨(some 3), none, .mv (.tmp 11)⟩])
  (.seq (.seq (.reg [⟨(some 12), none, .mv (.tmp 3)⟩,
    ⟨(some 13), none, .bin .lss 5 (.tmp 12) (.const (Value.int IntKind.u8 128)) 5 4⟩])
  (.cond (.tmp 13) (.seq (.reg [⟨(some 14), none, .mv (.tmp 0)⟩,
    ⟨(some 15), none, .gen (Op.slice 9 (Operand.tmp 14) (some (Operand.const (Value.int IntKind.i64 1))) none none) 9⟩,
    ⟨(some 0), none, .mv (.tmp 15)⟩])
  (.seq (.seq (.reg [⟨(some 16), none, .mv (.tmp 0)⟩,
    ⟨(some 17), none, .lenS (.tmp 16)⟩,
    ⟨(some 18), none, .bin .gtr 3 (.tmp 17) (.const (Value.int IntKind.i64 8)) 3 4⟩,
    ⟨(some 19), none, .mv (.tmp 18)⟩,
    ⟨(some 20), (some (19, true)), .mv (.tmp 0)⟩,
    ⟨(some 21), (some (19, true)), .call (.func 117) [(.tmp 20)]⟩,
    ⟨(some 22), (some (19, true)), .bin .and 12 (.tmp 21) (.const (Value.int IntKind.u64 9259542123273814144)) 12 12⟩,
    ⟨(some 23), (some (19, true)), .bin .eql 12 (.tmp 22) (.const (Value.int IntKind.u64 0)) 12 4⟩,
    ⟨(some 24), none, .pick (.tmp 19) (.tmp 23) (.const (Value.bool false))⟩])
  (.cond (.tmp 24) (.seq (.reg [⟨(some 25), none, .mv (.tmp 0)⟩,
    ⟨(some 26), none, .gen (Op.slice 9 (Operand.tmp 25) (some (Operand.const (Value.int IntKind.i64 8))) none none) 9⟩,
    ⟨(some 0), none, .mv (.tmp 26)⟩])
  (.seq (.drw [⟨(some 27), none, .mv (.tmp 0)⟩,
    ⟨(some 28), none, .lenS (.tmp 27)⟩,
    ⟨(some 29), none, .bin .gtr 3 (.tmp 28) (.const (Value.int IntKind.i64 16)) 3 4⟩,
    ⟨(some 30), none, .mv (.tmp 29)⟩,
    ⟨(some 31), (some (30, true)), .mv (.tmp 0)⟩,
    ⟨(some 32), (some (30, true)), .call (.func 117) [(.tmp 31)]⟩,
    ⟨(some 33), (some (30, true)), .mv (.tmp 0)⟩,
    ⟨(some 34), (some (30, true)), .gen (Op.slice 9 (Operand.tmp 33) (some (Operand.const (Value.int IntKind.i64 8))) none none) 9⟩,
    ⟨(some 35), (some (30, true)), .call (.func 117) [(.tmp 34)]⟩,
    ⟨(some 36), (some (30, true)), .bin .or 12 (.tmp 32) (.tmp 35) 12 12⟩,
    ⟨(some 37), (some (30, true)), .bin .and 12 (.tmp 36) (.const (Value.int IntKind.u64 9259542123273814144)) 12 12⟩,
    ⟨(some 38), (some (30, true)), .bin .eql 12 (.tmp 37) (.const (Value.int IntKind.u64 0)) 12 4⟩,
    ⟨(some 39), none, .pick (.tmp 30) (.tmp 38) (.const (Value.bool false))⟩] [[], [0], [1], [2], [3], [4, 3, 3], [3], [6, 3], [7, 5, 3], [5, 8, 3], [9, 3], [10, 3], [3, 11]] [0, 1, 2, 3, 4, 6, 7, 5, 8, 9, 10, 11, 12])
  (.cond (.tmp 39) (.seq (.reg [⟨(some 40), none, .mv (.tmp 0)⟩,
    ⟨(some 41), none, .gen (Op.slice 9 (Operand.tmp 40) (some (Operand.const (Value.int IntKind.i64 16))) none none) 9⟩,
    ⟨(some 0), none, .mv (.tmp 41)⟩])
  (.blk 2 (.loop (.seq (.seq (.drw [⟨(some 42), none, .mv (.tmp 0)⟩,
    ⟨(some 43), none, .lenS (.tmp 42)⟩,
    ⟨(some 44), none, .bin .gtr 3 (.tmp 43) (.const (Value.int IntKind.i64 32)) 3 4⟩,
    ⟨(some 45), none, .mv (.tmp 44)⟩,
    ⟨(some 46), (some (45, true)), .mv (.tmp 0)⟩,
    ⟨(some 47), (some (45, true)), .call (.func 117) [(.tmp 46)]⟩,
    ⟨(some 48), (some (45, true)), .mv (.tmp 0)⟩,
    ⟨(some 49), (some (45, true)), .gen (Op.slice 9 (Operand.tmp 48) (some (Operand.const (Value.int IntKind.i64 8))) none none) 9⟩,
    ⟨(some 50), (some (45, true)), .call (.func 117) [(.tmp 49)]⟩,
    ⟨(some 51), (some (45, true)), .bin .or 12 (.tmp 47) (.tmp 50) 12 12⟩,
    ⟨(some 52), (some (45, true)), .mv (.tmp 0)⟩,
    ⟨(some 53), (some (45, true)), .gen (Op.slice 9 (Operand.tmp 52) (some (Operand.const (Value.int IntKind.i64 16))) none none) 9⟩,
    ⟨(some 54), (some (45, true)), .call (.func 117) [(.tmp 53)]⟩,
    ⟨(some 55), (some (45, true)), .mv (.tmp 0)⟩,
    ⟨(some 56), (some (45, true)), .gen (Op.slice 9 (Operand.tmp 55) (some (Operand.const (Value.int IntKind.i64 24))) none none) 9⟩,
    ⟨(some 57), (some (45, true)), .call (.func 117) [(.tmp 56)]⟩,
    ⟨(some 58), (some (45, true)), .bin .or 12 (.tmp 54) (.tmp 57) 12 12⟩,
    ⟨(some 59), (some (45, true)), .bin .or 12 (.tmp 51) (.tmp 58) 12 12⟩,
    ⟨(some 60), (some (45, true)), .bin .and 12 (.tmp 59) (.const (Value.int IntKind.u64 9259542123273814144)) 12 12⟩,
    ⟨(some 61), (some (45, true)), .bin .eql 12 (.tmp 60) (.const (Value.int IntKind.u64 0)) 12 4⟩,
    ⟨(some 62), none, .pick (.tmp 45) (.tmp 61) (.const (Value.bool false))⟩] [[], [0], [1], [2], [3], [4, 3, 3], [3], [6, 3], [7, 5, 3], [5, 8, 3], [3], [10, 3], [11, 8, 3], [3], [13, 3], [14, 12, 3], [12, 15, 3], [9, 16, 3], [17, 3], [18, 3], [3, 19]] [0, 1, 2, 3, 4, 6, 7, 10, 11, 13, 14, 5, 8, 9, 12, 15, 16, 17, 18, 19, 20])
  (.cond (.tmp 62) .skip (.exit 2)))
  (.blk 3 (.reg [⟨(some 63), none, .mv (.tmp 0)⟩,
    ⟨(some 64), none, .gen (Op.slice 9 (Operand.tmp 63) (some (Operand.const (Value.int IntKind.i64 32))) none none) 9⟩,
    ⟨(some 0), none, .mv (.tmp 64)⟩])))))) .skip))) .skip))
  (.exit 1))) .skip))
  (.seq (.reg [⟨(some 65), none, .mv (.tmp 3)⟩,
    ⟨(some 66), none, .idx (some 256) 1 (.global 0) (.tmp 65)⟩,
    ⟨(some 67), none, .load (.tmp 66)⟩,
    ⟨(some 4), none, .mv (.tmp 67)⟩])
  (.seq (.reg [⟨(some 68), none, .mv (.tmp 4)⟩,
    ⟨(some 69), none, .bin .and 5 (.tmp 68) (.const (Value.int IntKind.u8 7)) 5 5⟩,
    ⟨(some 70), none, .conv .i64 (.tmp 69)⟩,
    ⟨(some 5), none, .mv (.tmp 70)⟩])
  (.seq (.reg [⟨(some 71), none, .mv (.tmp 4)⟩,
    ⟨(some 72), none, .bin .shr 5 (.tmp 71) (.const (Value.int IntKind.u64 4)) 143 5⟩,
    ⟨(some 73), none, .idx (some 16) 2 (.global 1) (.tmp 72)⟩,
    ⟨(some 74), none, .loadA 2 (.tmp 73)⟩,
    ⟨(some 6), none, .alloc [Value.int IntKind.u8 0, Value.int IntKind.u8 0]⟩,
    ⟨none, none, .store 2 (.tmp 6) (.tmp 74)⟩])
  (.seq (.reg [⟨(some 75), none, .mv (.tmp 5)⟩])
  (.blk 4 (.seq (.reg [⟨(some 77), none, .bin .eql 3 (.tmp 75) (.const (Value.int IntKind.i64 2)) 3 4⟩,
    ⟨(some 76), none, .mv (.tmp 77)⟩])
  (.cond (.tmp 76) (.seq (.seq (.drw [⟨(some 78), none, .mv (.tmp 0)⟩,
    ⟨(some 79), none, .lenS (.tmp 78)⟩,
    ⟨(some 80), none, .bin .lss 3 (.tmp 79) (.const (Value.int IntKind.i64 2)) 3 4⟩,
    ⟨(some 81), none, .mv (.tmp 80)⟩,
    ⟨(some 82), (some (81, false)), .mv (.tmp 0)⟩,
    ⟨(some 83), (some (81, false)), .idxS (.tmp 82) (.const (Value.int IntKind.i64 1))⟩,
    ⟨(some 84), (some (81, false)), .fld 0 (.tmp 6)⟩,
    ⟨(some 85), (some (81, false)), .load (.tmp 84)⟩,
    ⟨(some 86), (some (81, false)), .bin .lss 5 (.tmp 83) (.tmp 85) 5 4⟩,
    ⟨(some 87), none, .pick (.tmp 81) (.const (Value.bool true)) (.tmp 86)⟩,
    ⟨(some 88), none, .mv (.tmp 87)⟩,
    ⟨(some 89), (some (88, false)), .fld 1 (.tmp 6)⟩,
    ⟨(some 90), (some (88, false)), .load (.tmp 89)⟩,
    ⟨(some 91), (some (88, false)), .mv (.tmp 0)⟩,
    ⟨(some 92), (some (88, false)), .idxS (.tmp 91) (.const (Value.int IntKind.i64 1))⟩,
    ⟨(some 93), (some (88, false)), .bin .lss 5 (.tmp 90) (.tmp 92) 5 4⟩,
    ⟨(some 94), none, .pick (.tmp 88) (.const (Value.bool true)) (.tmp 93)⟩] [[], [0], [1], [2], [3], [4, 3], [3], [6, 3], [5, 7, 3], [3, 8], [9, 3], [10], [11, 10], [10], [13, 10], [12, 14, 10], [10, 15]] [0, 1, 2, 3, 4, 5, 6, 7, 8, 9, 10, 11, 12, 13, 14, 15, 16])
  (.cond (.tmp 94) (.seq (.reg [⟨(some 2), none, .mv (.const (Value.bool false))⟩])
  .ret) .skip))
  (.reg [⟨(some 95), none, .mv (.tmp 0)⟩,
    ⟨(some 96), none, .gen (Op.slice 9 (Operand.tmp 95) (some (Operand.const (Value.int IntKind.i64 2))) none none) 9⟩,
    ⟨(some 0), none, .mv (.tmp 96)⟩])) (.seq (.reg [⟨(some 98), none, .bin .eql 3 (.tmp 75) (.const (Value.int IntKind.i64 3)) 3 4⟩,
    ⟨(some 97), none, .mv (.tmp 98)⟩])
  (.cond (.tmp 97) (.seq (.seq (.drw [⟨(some 99), none, .mv (.tmp 0)⟩,
    ⟨(some 100), none, .lenS (.tmp 99)⟩,
    ⟨(some 101), none, .bin .lss 3 (.tmp 100) (.const (Value.int IntKind.i64 3)) 3 4⟩,
    ⟨(some 102), none, .mv (.tmp 101)⟩,
    ⟨(some 103), (some (102, false)), .mv (.tmp 0)⟩,
    ⟨(some 104), (some (102, false)), .idxS (.tmp 103) (.const (Value.int IntKind.i64 1))⟩,
    ⟨(some 105), (some (102, false)), .fld 0 (.tmp 6)⟩,
    ⟨(some 106), (some (102, false)), .load (.tmp 105)⟩,
    ⟨(some 107), (some (102, false)), .bin .lss 5 (.tmp 104) (.tmp 106) 5 4⟩,
    ⟨(some 108), none, .pick (.tmp 102) (.const (Value.bool true)) (.tmp 107)⟩,
    ⟨(some 109), none, .mv (.tmp 108)⟩,
    ⟨(some 110), (some (109, false)), .fld 1 (.tmp 6)⟩,
    ⟨(some 111), (some (109, false)), .load (.tmp 110)⟩,
    ⟨(some 112), (some (109, false)), .mv (.tmp 0)⟩,
    ⟨(some 113), (some (109, false)), .idxS (.tmp 112) (.const (Value.int IntKind.i64 1))⟩,
    ⟨(some 114), (some (109, false)), .bin .lss 5 (.tmp 111) (.tmp 113) 5 4⟩,
    ⟨(some 115), none, .pick (.tmp 109) (.const (Value.bool true)) (.tmp 114)⟩,
    ⟨(some 116), none, .mv (.tmp 115)⟩,
    ⟨(some 117), (some (116, false)), .mv (.tmp 0)⟩,
    ⟨(some 118), (some (116, false)), .idxS (.tmp 117) (.const (Value.int IntKind.i64 2))⟩,
    ⟨(some 119), (some (116, false)), .bin .lss 5 (.tmp 118) (.const (Value.int IntKind.u8 128)) 5 4⟩,
    ⟨(some 120), none, .pick (.tmp 116) (.const (Value.bool true)) (.tmp 119)⟩,
    ⟨(some 121), none, .mv (.tmp 120)⟩,
    ⟨(some 122), (some (121, false)), .mv (.tmp 0)⟩,
    ⟨(some 123), (some (121, false)), .idxS (.tmp 122) (.const (Value.int IntKind.i64 2))⟩,
    ⟨(some 124), (some (121, false)), .bin .lss 5 (.const (Value.int IntKind.u8 191)) (.tmp 123) 5 4⟩,
    ⟨(some 125), none, .pick (.tmp 121) (.const (Value.bool true)) (.tmp 124)⟩] [[], [0], [1], [2], [3], [4, 3], [3], [6, 3], [5, 7, 3], [3, 8], [9, 3], [10], [11, 10], [10], [13, 10], [12, 14, 10], [10, 15], [16, 10], [17], [18, 17], [19, 17], [17, 20], [21, 17], [22], [23, 22], [24, 22], [22, 25]] [0, 1, 2, 3, 4, 5, 6, 7, 8, 9, 10, 11, 12, 13, 14, 15, 16, 17, 18, 19, 20, 21, 22, 23, 24, 25, 26])
  (.cond (.tmp 125) (.seq (.reg [⟨(some 2), none, .mv (.const (Value.bool false))⟩])
  .ret) .skip))
  (.reg [⟨(some 126), none, .mv (.tmp 0)⟩,
    ⟨(some 127), none, .gen (Op.slice 9 (Operand.tmp 126) (some (Operand.const (Value.int IntKind.i64 3))) none none) 9⟩,
    ⟨(some 0), none, .mv (.tmp 127)⟩])) (.seq (.reg [⟨(some 129), none, .bin .eql 3 (.tmp 75) (.const (Value.int IntKind.i64 4)) 3 4⟩,
    ⟨(some 128), none, .mv (.tmp 129)⟩])
  (.cond (.tmp 128) (.seq (.seq (.drw [⟨(some 130), none, .mv (.tmp 0)⟩,
    ⟨(some 131), none, .lenS (.tmp 130)⟩,
    ⟨(some 132), none, .bin .lss 3 (.tmp 131) (.const (Value.int IntKind.i64 4)) 3 4⟩,
    ⟨(some 133), none, .mv (.tmp 132)⟩,
    ⟨(some 134), (some (133, false)), .mv (.tmp 0)⟩,
    ⟨(some 135), (some (133, false)), .idxS (.tmp 134) (.const (Value.int IntKind.i64 1))⟩,
    ⟨(some 136), (some (133, false)), .fld 0 (.tmp 6)⟩,
    ⟨(some 137), (some (133, false)), .load (.tmp 136)⟩,
    ⟨(some 138), (some (133, false)), .bin .lss 5 (.tmp 135) (.tmp 137) 5 4⟩,
    ⟨(some 139), none, .pick (.tmp 133) (.const (Value.bool true)) (.tmp 138)⟩,
    ⟨(some 140), none, .mv (.tmp 139)⟩,
    ⟨(some 141), (some (140, false)), .fld 1 (.tmp 6)⟩,
    ⟨(some 142), (some (140, false)), .load (.tmp 141)⟩,
    ⟨(some 143), (some (140, false)), .mv (.tmp 0)⟩,
    ⟨(some 144), (some (140, false)), .idxS (.tmp 143) (.const (Value.int IntKind.i64 1))⟩,
    ⟨(some 145), (some (140, false)), .bin .lss 5 (.tmp 142) (.tmp 144) 5 4⟩,
    ⟨(some 146), none, .pick (.tmp 140) (.const (Value.bool true)) (.tmp 145)⟩,
    ⟨(some 147), none, .mv (.tmp 146)⟩,
    ⟨(some 148), (some (147, false)), .mv (.tmp 0)⟩,
    ⟨(some 149), (some (147, false)), .idxS (.tmp 148) (.const (Value.int IntKind.i64 2))⟩,
    ⟨(some 150), (some (147, false)), .bin .lss 5 (.tmp 149) (.const (Value.int IntKind.u8 128)) 5 4⟩,
    ⟨(some 151), none, .pick (.tmp 147) (.const (Value.bool true)) (.tmp 150)⟩,
    ⟨(some 152), none, .mv (.tmp 151)⟩,
    ⟨(some 153), (some (152, false)), .mv (.tmp 0)⟩,
    ⟨(some 154), (some (152, false)), .idxS (.tmp 153) (.const (Value.int IntKind.i64 2))⟩,
    ⟨(some 155), (some (152, false)), .bin .lss 5 (.const (Value.int IntKind.u8 191)) (.tmp 154) 5 4⟩,
    ⟨(some 156), none, .pick (.tmp 152) (.const (Value.bool true)) (.tmp 155)⟩,
    ⟨(some 157), none, .mv (.tmp 156)⟩,
    ⟨(some 158), (some (157, false)), .mv (.tmp 0)⟩,
    ⟨(some 159), (some (157, false)), .idxS (.tmp 158) (.const (Value.int IntKind.i64 3))⟩,
    ⟨(some 160), (some (157, false)), .bin .lss 5 (.tmp 159) (.const (Value.int IntKind.u8 128)) 5 4⟩,
    ⟨(some 161), none, .pick (.tmp 157) (.const (Value.bool true)) (.tmp 160)⟩,
    ⟨(some 162), none, .mv (.tmp 161)⟩,
    ⟨(some 163), (some (162, false)), .mv (.tmp 0)⟩,
    ⟨(some 164), (some (162, false)), .idxS (.tmp 163) (.const (Value.int IntKind.i64 3))⟩,
    ⟨(some 165), (some (162, false)), .bin .lss 5 (.const (Value.int IntKind.u8 191)) (.tmp 164) 5 4⟩,
    ⟨(some 166), none, .pick (.tmp 162) (.const (Value.bool true)) (.tmp 165)⟩] [[], [0], [1], [2], [3], [4, 3], [3], [6, 3], [5, 7, 3], [3, 8], [9, 3], [10], [11, 10], [10], [13, 10], [12, 14, 10], [10, 15], [16, 10], [17], [18, 17], [19, 17], [17, 20], [21, 17], [22], [23, 22], [24, 22], [22, 25], [26, 22], [27], [28, 27], [29, 27], [27, 30], [31, 27], [32], [33, 32], [34, 32], [32, 35]] [0, 1, 2, 3, 4, 5, 6, 7, 8, 9, 10, 11, 12, 13, 14, 15, 16, 17, 18, 19, 20, 21, 22, 23, 24, 25, 26, 27, 28, 29, 30, 31, 32, 33, 34, 35, 36])
  (.cond (.tmp 166) (.seq (.reg [⟨(some 2), none, .mv (.const (Value.bool false))⟩])
  .ret) .skip))
  (.reg [⟨(some 167), none, .mv (.tmp 0)⟩,
    ⟨(some 168), none, .gen (Op.slice 9 (Operand.tmp 167) (some (Operand.const (Value.int IntKind.i64 4))) none none) 9⟩,
    ⟨(some 0), none, .mv (.tmp 168)⟩])) (.seq (.reg [⟨(some 2), none, .mv (.const (Value.bool false))⟩])
  .ret))))))))))))))))))
  (.seq (.reg [⟨(some 2), none, .mv (.const (Value.bool true))⟩])
  .ret))), 169, [.tmp 2], false⟩
theorem c96 : cmpF Tryz.prog [(7, [0, 1, 2, 3, 4, 5, 6, 7, 8, 9, 10, 11, 12], [0, 1, 2, 3, 4, 5, 6, 7, 8, 9, 10, 11, 12], [0, 1, 2, 3, 4, 6, 7, 5, 8, 9, 10, 11, 12]), (9, [0, 1, 2, 3, 4, 5, 6, 7, 8, 9, 10, 11, 12, 13, 14, 15, 16, 17, 18, 19, 20], [0, 1, 2, 3, 4, 5, 6, 7, 8, 9, 10, 11, 12, 13, 14, 15, 16, 17, 18, 19, 20], [0, 1, 2, 3, 4, 6, 7, 10, 11, 13, 14, 5, 8, 9, 12, 15, 16, 17, 18, 19, 20]), (17, [0, 1, 2, 3, 4, 5, 6, 7, 8, 9, 10, 11, 12, 13, 14, 15, 16], [0, 1, 2, 3, 4, 5, 6, 7, 8, 9, 10, 11, 12, 13, 14, 15, 16], [0, 1, 2, 3, 4, 5, 6, 7, 8, 9, 10, 11, 12, 13, 14, 15, 16]), (21, [0, 1, 2, 3, 4, 5, 6, 7, 8, 9, 10, 11, 12, 13, 14, 15, 16, 17, 18, 19, 20, 21, 22, 23, 24, 25, 26], [0, 1, 2, 3, 4, 5, 6, 7, 8, 9, 10, 11, 12, 13, 14, 15, 16, 17, 18, 19, 20, 21, 22, 23, 24, 25, 26], [0, 1, 2, 3, 4, 5, 6, 7, 8, 9, 10, 11, 12, 13, 14, 15, 16, 17, 18, 19, 20, 21, 22, 23, 24, 25, 26]), (25, [0, 1, 2, 3, 4, 5, 6, 7, 8, 9, 10, 11, 12, 13, 14, 15, 16, 17, 18, 19, 20, 21, 22, 23, 24, 25, 26, 27, 28, 29, 30, 31, 32, 33, 34, 35, 36], [0, 1, 2, 3, 4, 5, 6, 7, 8, 9, 10, 11, 12, 13, 14, 15, 16, 17, 18, 19, 20, 21, 22, 23, 24, 25, 26, 27, 28, 29, 30, 31, 32, 33, 34, 35, 36], [0, 1, 2, 3, 4, 5, 6, 7, 8, 9, 10, 11, 12, 13, 14, 15, 16, 17, 18, 19, 20, 21, 22, 23, 24, 25, 26, 27, 28, 29, 30, 31, 32, 33, 34, 35, 36])] k96.pure 96 = some k96 := by kernel_rfl
-- joist/val.eight
def k124 : KF := ⟨(.seq (.reg [⟨(some 2), none, .mv (.const (Value.slice none 0 0))⟩])
  (.seq (.reg [⟨(some 3), none, .mv (.const (Value.slice none 0 0))⟩])
  (.seq (.seq (.reg [⟨(some 4), none, .mv (.const (Value.int IntKind.i64 56))⟩])
  (.blk 0 (.loop (.seq (.seq (.reg [⟨(some 5), none, .mv (.tmp 4)⟩,
    ⟨(some 6), none, .bin .geq 3 (.tmp 5) (.const (Value.int IntKind.i64 0)) 3 4⟩])
  (.cond (.tmp 6) .skip (.exit 0)))
  (.seq (.blk 1 (.reg [⟨(some 9), none, .mv (.tmp 3)⟩,
    ⟨(some 10), none, .mv (.tmp 0)⟩,
    ⟨(some 11), none, .mv (.tmp 4)⟩,
    ⟨(some 12), none, .bin .shr 140 (.tmp 10) (.tmp 11) 3 140⟩,
    ⟨(some 13), none, .conv .u8 (.tmp 12)⟩,
    ⟨(some 14), none, .bls 1 [Value.int IntKind.u8 0] 1 [(0, (.tmp 13))]⟩,
    ⟨(some 15), none, .app 1 1 (.tmp 9) (.tmp 14)⟩,
    ⟨(some 3), none, .mv (.tmp 15)⟩]))
  (.reg [⟨(some 7), none, .mv (.tmp 4)⟩,
    ⟨(some 8), none, .bin .sub 3 (.tmp 7) (.const (Value.int IntKind.i64 8)) 3 3⟩,
    ⟨(some 4), none, .mv (.tmp 8)⟩]))))))
  (.seq (.reg [⟨(some 16), none, .mv (.tmp 3)⟩,
    ⟨(some 2), none, .mv (.tmp 16)⟩])
  .ret)))), 17, [.tmp 2], false⟩
theorem c124 : cmpF Tryz.prog [] k124.pure 124 = some k124 := by kernel_rfl
-- joist/float.Bytes
def k125 : KF := ⟨(.seq (.reg [⟨(some 2), none, .mv (.const (Value.slice none 0 0))⟩])
  (.seq (.seq (.reg [⟨(some 6), none, .mv (.tmp 0)⟩,
    ⟨(some 7), none, .call (.func 95) [(.tmp 6)]⟩,
    ⟨(some 8), none, .not (.tmp 7)⟩])
  (.cond (.tmp 8) (.seq (.reg [⟨(some 2), none, .mv (.const (Value.slice none 0 0))⟩])
  .ret) .skip))
  (.seq (.reg [⟨(some 9), none, .mv (.tmp 0)⟩,
    ⟨(some 10), none, .conv .u64 (.tmp 9)⟩,
    ⟨(some 11), none, .call (.func 132) [(.tmp 10)]⟩,
    ⟨(some 3), none, .mv (.tmp 11)⟩])
  (.seq (.reg [⟨(some 4), none, .mv (.const (Value.slice none 0 0))⟩])
  (.seq (.seq (.reg [⟨(some 5), none, .mv (.const (Value.int IntKind.i64 56))⟩])
  (.blk 0 (.loop (.seq (.seq (.reg [⟨(some 12), none, .mv (.tmp 5)⟩,
    ⟨(some 13), none, .bin .geq 3 (.tmp 12) (.const (Value.int IntKind.i64 0)) 3 4⟩])
  (.cond (.tmp 13) .skip (.exit 0)))
  (.seq (.blk 1 (.reg [⟨(some 16), none, .mv (.tmp 4)⟩,
    ⟨(some 17), none, .mv (.tmp 3)⟩,
    ⟨(some 18), none, .mv (.tmp 5)⟩,
    ⟨(some 19), none, .bin .shr 167 (.tmp 17) (.tmp 18) 3 167⟩,
    ⟨(some 20), none, .conv .u8 (.tmp 19)⟩,
    ⟨(some 21), none, .bls 1 [Value.int IntKind.u8 0] 1 [(0, (.tmp 20))]⟩,
    ⟨(some 22), none, .app 1 1 (.tmp 16) (.tmp 21)⟩,
    ⟨(some 4), none, .mv (.tmp 22)⟩]))
  (.reg [⟨(some 14), none, .mv (.tmp 5)⟩,
    ⟨(some 15), none, .bin .sub 3 (.tmp 14) (.const (Value.int IntKind.i64 8)) 3 3⟩,
    ⟨(some 5), none, .mv (.tmp 15)⟩]))))))
  (.seq (.reg [⟨(some 23), none, .mv (.tmp 4)⟩,
    ⟨(some 2), none, .mv (.tmp 23)⟩])
  .ret)))))), 24, [.tmp 2], false⟩
theorem c125 : cmpF Tryz.prog [] k125.pure 125 = some k125 := by kernel_rfl
-- joist/val.escaped
def k126 : KF := ⟨(.seq (.reg [⟨(some 2), none, .mv (.const (Value.slice none 0 0))⟩])
  (.seq (.reg [⟨(some 4), none, .mv (.tmp 0)⟩,
    ⟨(some 5), none, .call (.func 133) [(.tmp 4), (.const (Value.string { data := #[0] })), (.const (Value.string { data := #[0, 255] }))]⟩,
    ⟨(some 3), none, .mv (.tmp 5)⟩])
  (.seq (.reg [⟨(some 6), none, .mv (.tmp 3)⟩,
    ⟨(some 7), none, .toB (.tmp 6)⟩,
    ⟨(some 8), none, .bls 1 [Value.int IntKind.u8 0] 2 [(0, (.const (Value.int IntKind.u8 0))), (1, (.const (Value.int IntKind.u8 1)))]⟩,
    ⟨(some 9), none, .app 1 1 (.tmp 7) (.tmp 8)⟩,
    ⟨(some 2), none, .mv (.tmp 9)⟩])
  .ret))), 10, [.tmp 2], false⟩
theorem c126 : cmpF Tryz.prog [] k126.pure 126 = some k126 := by kernel_rfl
-- strings.indexFunc
def k127 : KF := ⟨(.seq (.reg [⟨(some 6), none, .mv (.const (Value.int IntKind.i64 0))⟩])
  (.seq (.seq (.reg [⟨(some 9), none, .mv (.tmp 0)⟩,
    ⟨(some 10), none, .bad⟩])
  (.blk 0 (.loop (.seq (.reg [⟨(some 11), none, .bad⟩,
    ⟨(some 12), none, .ext (.tmp 11) 0⟩])
  (.seq (.cond (.tmp 12) .skip (.exit 0))
  (.blk 1 (.seq (.reg [⟨(some 13), none, .ext (.tmp 11) 1⟩,
    ⟨(some 14), none, .ext (.tmp 11) 2⟩,
    ⟨(some 7), none, .mv (.tmp 13)⟩,
    ⟨(some 8), none, .mv (.tmp 14)⟩])
  (.seq (.reg [⟨(some 15), none, .mv (.tmp 1)⟩,
    ⟨(some 16), none, .mv (.tmp 8)⟩,
    ⟨(some 17), none, .call (.tmp 15) [(.tmp 16)]⟩,
    ⟨(some 18), none, .mv (.tmp 2)⟩,
    ⟨(some 19), none, .eqB false (.tmp 17) (.tmp 18)⟩])
  (.cond (.tmp 19) (.seq (.reg [⟨(some 20), none, .mv (.tmp 7)⟩,
    ⟨(some 6), none, .mv (.tmp 20)⟩])
  .ret) .skip)))))))))
  (.seq (.reg [⟨(some 6), none, .mv (.const (Value.int IntKind.i64 (-1)))⟩])
  .ret))), 21, [.tmp 6], false⟩
theorem c127 : cmpF Tryz.prog [] k127.pure 127 = some k127 := by kernel_rfl
-- joist/float.From
def k128 : KF := ⟨(.seq (.reg [⟨(some 2), none, .mv (.const (Value.int IntKind.i64 0))⟩,
    ⟨(some 3), none, .mv (.const (Value.bool false))⟩])
  (.seq (.seq (.reg [⟨(some 8), none, .mv (.tmp 0)⟩,
    ⟨(some 9), none, .len (.tmp 8)⟩,
    ⟨(some 10), none, .bin .neq 3 (.tmp 9) (.const (Value.int IntKind.i64 8)) 3 4⟩])
  (.cond (.tmp 10) (.seq (.reg [⟨(some 2), none, .mv (.const (Value.int IntKind.i64 0))⟩,
    ⟨(some 3), none, .mv (.const (Value.bool false))⟩])
  .ret) .skip))
  (.seq (.reg [⟨(some 4), none, .mv (.const (Value.int IntKind.u64 0))⟩])
  (.seq (.seq (.reg [⟨(some 11), none, .mv (.tmp 0)⟩,
    ⟨(some 12), none, .len (.tmp 11)⟩,
    ⟨(some 13), none, .mv (.const (Value.int IntKind.i64 0))⟩])
  (.blk 0 (.loop (.seq (.reg [⟨(some 14), none, .bin .lss 3 (.tmp 13) (.tmp 12) 3 0⟩])
  (.seq (.cond (.tmp 14) .skip (.exit 0))
  (.seq (.blk 1 (.seq (.reg [⟨(some 15), none, .idx none 1 (.tmp 11) (.tmp 13)⟩,
    ⟨(some 16), none, .load (.tmp 15)⟩,
    ⟨(some 6), none, .mv (.tmp 16)⟩])
  (.reg [⟨(some 17), none, .mv (.tmp 4)⟩,
    ⟨(some 18), none, .bin .shl 167 (.tmp 17) (.const (Value.int IntKind.u64 8)) 143 167⟩,
    ⟨(some 19), none, .mv (.tmp 6)⟩,
    ⟨(some 20), none, .conv .u64 (.tmp 19)⟩,
    ⟨(some 21), none, .bin .or 167 (.tmp 18) (.tmp 20) 167 167⟩,
    ⟨(some 4), none, .mv (.tmp 21)⟩])))
  (.reg [⟨(some 22), none, .bin .add 3 (.tmp 13) (.const (Value.int IntKind.i64 1)) 3 3⟩,
    ⟨(some 13), none, .mv (.tmp 22)⟩])))))))
  (.seq (.reg [⟨(some 23), none, .mv (.tmp 4)⟩,
    ⟨(some 24), none, .call (.func 134) [(.tmp 23)]⟩,
    ⟨(some 25), none, .call (.func 135) [(.tmp 24)]⟩,
    ⟨(some 7), none, .mv (.tmp 25)⟩])
  (.seq (.seq (.reg [⟨(some 26), none, .mv (.tmp 7)⟩,
    ⟨(some 27), none, .call (.func 95) [(.tmp 26)]⟩,
    ⟨(some 28), none, .not (.tmp 27)⟩])
  (.cond (.tmp 28) (.seq (.reg [⟨(some 2), none, .mv (.const (Value.int IntKind.i64 0))⟩,
    ⟨(some 3), none, .mv (.const (Value.bool false))⟩])
  .ret) .skip))
  (.seq (.reg [⟨(some 29), none, .mv (.tmp 7)⟩,
    ⟨(some 2), none, .mv (.tmp 29)⟩,
    ⟨(some 3), none, .mv (.const (Value.bool true))⟩])
  .ret))))))), 30, [.tmp 2, .tmp 3], false⟩
theorem c128 : cmpF Tryz.prog [] k128.pure 128 = some k128 := by kernel_rfl
-- joist/val.unescaped
def k129 : KF := ⟨(.seq (.reg [⟨(some 2), none, .mv (.const (Value.string { data := #[] }))⟩,
    ⟨(some 3), none, .mv (.const (Value.bool false))⟩])
  (.seq (.reg [⟨(some 4), none, .mv (.const (Value.slice none 0 0))⟩])
  (.blk 0 (.loop (.blk 1 (.seq (.reg [⟨(some 7), none, .mv (.tmp 0)⟩,
    ⟨(some 8), none, .call (.func 136) [(.tmp 7), (.const (Value.int IntKind.u8 0))]⟩,
    ⟨(some 5), none, .mv (.tmp 8)⟩])
  (.seq (.seq (.reg [⟨(some 9), none, .mv (.tmp 5)⟩,
    ⟨(some 10), none, .bin .lss 3 (.tmp 9) (.const (Value.int IntKind.i64 0)) 3 4⟩,
    ⟨(some 11), none, .mv (.tmp 10)⟩,
    ⟨(some 12), (some (11, false)), .mv (.tmp 5)⟩,
    ⟨(some 13), (some (11, false)), .bin .add 3 (.tmp 12) (.const (Value.int IntKind.i64 1)) 3 3⟩,
    ⟨(some 14), (some (11, false)), .mv (.tmp 0)⟩,
    ⟨(some 15), (some (11, false)), .len (.tmp 14)⟩,
    ⟨(some 16), (some (11, false)), .bin .eql 3 (.tmp 13) (.tmp 15) 3 4⟩,
    ⟨(some 17), none, .pick (.tmp 11) (.const (Value.bool true)) (.tmp 16)⟩])
  (.cond (.tmp 17) (.seq (.reg [⟨(some 2), none, .mv (.const (Value.string { data := #[] }))⟩,
    ⟨(some 3), none, .mv (.const (Value.bool false))⟩])
  .ret) .skip))
  (.seq (.reg [⟨(some 18), none, .mv (.tmp 4)⟩,
    ⟨(some 19), none, .mv (.tmp 0)⟩,
    ⟨(some 20), none, .mv (.tmp 5)⟩,
    ⟨(some 21), none, .cut 1 (.tmp 19) none (some (.tmp 20)) none⟩,
    ⟨(some 22), none, .app 1 1 (.tmp 18) (.tmp 21)⟩,
    ⟨(some 4), none, .mv (.tmp 22)⟩])
  (.seq (.reg [⟨(some 23), none, .mv (.tmp 0)⟩,
    ⟨(some 24), none, .mv (.tmp 5)⟩,
    ⟨(some 25), none, .bin .add 3 (.tmp 24) (.const (Value.int IntKind.i64 1)) 3 3⟩,
    ⟨(some 26), none, .idx none 1 (.tmp 23) (.tmp 25)⟩,
    ⟨(some 27), none, .load (.tmp 26)⟩,
    ⟨(some 6), none, .mv (.tmp 27)⟩])
  (.seq (.reg [⟨(some 28), none, .mv (.tmp 0)⟩,
    ⟨(some 29), none, .mv (.tmp 5)⟩,
    ⟨(some 30), none, .bin .add 3 (.tmp 29) (.const (Value.int IntKind.i64 2)) 3 3⟩,
    ⟨(some 31), none, .cut 1 (.tmp 28) (some (.tmp 30)) none none⟩,
    ⟨(some 0), none, .mv (.tmp 31)⟩])
  (.seq (.blk 2 (.seq (.reg [⟨(some 33), none, .mv (.tmp 6)⟩,
    ⟨(some 34), none, .bin .eql 5 (.tmp 33) (.const (Value.int IntKind.u8 1)) 5 4⟩,
    ⟨(some 32), none, .mv (.tmp 34)⟩])
  (.cond (.tmp 32) (.seq (.reg [⟨(some 35), none, .mv (.tmp 4)⟩,
    ⟨(some 36), none, .toT (.tmp 35)⟩,
    ⟨(some 37), none, .mv (.tmp 0)⟩,
    ⟨(some 38), none, .len (.tmp 37)⟩,
    ⟨(some 39), none, .bin .eql 3 (.tmp 38) (.const (Value.int IntKind.i64 0)) 3 4⟩,
    ⟨(some 2), none, .mv (.tmp 36)⟩,
    ⟨(some 3), none, .mv (.tmp 39)⟩])
  .ret) (.seq (.reg [⟨(some 41), none, .mv (.tmp 6)⟩,
    ⟨(some 42), none, .bin .neq 5 (.tmp 41) (.const (Value.int IntKind.u8 255)) 5 4⟩,
    ⟨(some 40), none, .mv (.tmp 42)⟩])
  (.cond (.tmp 40) (.seq (.reg [⟨(some 2), none, .mv (.const (Value.string { data := #[] }))⟩,
    ⟨(some 3), none, .mv (.const (Value.bool false))⟩])
  .ret) .skip)))))
  (.reg [⟨(some 43), none, .mv (.tmp 4)⟩,
    ⟨(some 44), none, .bls 1 [Value.int IntKind.u8 0] 1 [(0, (.const (Value.int IntKind.u8 0)))]⟩,
    ⟨(some 45), none, .app 1 1 (.tmp 43) (.tmp 44)⟩,
    ⟨(some 4), none, .mv (.tmp 45)⟩])))))))))))), 46, [.tmp 2, .tmp 3], false⟩
theorem c129 : cmpF Tryz.prog [] k129.pure 129 = some k129 := by kernel_rfl
-- (*bytes.Buffer).tryGrowByReslice
def k130 : KF := ⟨(.seq (.reg [⟨(some 4), none, .mv (.const (Value.int IntKind.i64 0))⟩,
    ⟨(some 5), none, .mv (.const (Value.bool false))⟩])
  (.seq (.seq (.reg [⟨(some 7), none, .mv (.tmp 0)⟩,
    ⟨(some 8), none, .nilck (.tmp 7)⟩,
    ⟨(some 9), none, .fld 0 (.tmp 8)⟩,
    ⟨(some 10), none, .load (.tmp 9)⟩,
    ⟨(some 11), none, .len (.tmp 10)⟩,
    ⟨(some 6), none, .mv (.tmp 11)⟩])
  (.seq (.reg [⟨(some 12), none, .mv (.tmp 1)⟩,
    ⟨(some 13), none, .mv (.tmp 0)⟩,
    ⟨(some 14), none, .nilck (.tmp 13)⟩,
    ⟨(some 15), none, .fld 0 (.tmp 14)⟩,
    ⟨(some 16), none, .load (.tmp 15)⟩,
    ⟨(some 17), none, .cap0 (.tmp 16)⟩,
    ⟨(some 18), none, .mv (.tmp 6)⟩,
    ⟨(some 19), none, .bin .sub 3 (.tmp 17) (.tmp 18) 3 3⟩,
    ⟨(some 20), none, .bin .leq 3 (.tmp 12) (.tmp 19) 3 4⟩])
  (.cond (.tmp 20) (.seq (.reg [⟨(some 21), none, .mv (.tmp 0)⟩,
    ⟨(some 22), none, .mv (.tmp 0)⟩,
    ⟨(some 23), none, .nilck (.tmp 22)⟩,
    ⟨(some 24), none, .fld 0 (.tmp 23)⟩,
    ⟨(some 25), none, .load (.tmp 24)⟩,
    ⟨(some 26), none, .mv (.tmp 6)⟩,
    ⟨(some 27), none, .mv (.tmp 1)⟩,
    ⟨(some 28), none, .bin .add 3 (.tmp 26) (.tmp 27) 3 3⟩,
    ⟨(some 29), none, .cut 1 (.tmp 25) none (some (.tmp 28)) none⟩,
    ⟨(some 30), none, .nilck (.tmp 21)⟩,
    ⟨(some 31), none, .fld 0 (.tmp 30)⟩,
    ⟨none, none, .store 1 (.tmp 31) (.tmp 29)⟩])
  (.seq (.reg [⟨(some 32), none, .mv (.tmp 6)⟩,
    ⟨(some 4), none, .mv (.tmp 32)⟩,
    ⟨(some 5), none, .mv (.const (Value.bool true))⟩])
  .ret)) .skip)))
  (.seq (.reg [⟨(some 4), none, .mv (.const (Value.int IntKind.i64 0))⟩,
    ⟨(some 5), none, .mv (.const (Value.bool false))⟩])
  .ret))), 33, [.tmp 4, .tmp 5], false⟩
theorem c130 : cmpF Tryz.prog [] k130.pure 130 = some k130 := by kernel_rfl
-- (*bytes.Buffer).grow
def k131 : KF := ⟨(.seq (.reg [⟨(some 4), none, .mv (.const (Value.int IntKind.i64 0))⟩])
  (.seq (.reg [⟨(some 9), none, .mv (.tmp 0)⟩,
    ⟨(some 10), none, .call (.func 137) [(.tmp 9)]⟩,
    ⟨(some 5), none, .mv (.tmp 10)⟩])
  (.seq (.seq (.reg [⟨(some 11), none, .mv (.tmp 5)⟩,
    ⟨(some 12), none, .bin .eql 3 (.tmp 11) (.const (Value.int IntKind.i64 0)) 3 4⟩,
    ⟨(some 13), none, .mv (.tmp 12)⟩,
    ⟨(some 14), (some (13, true)), .mv (.tmp 0)⟩,
    ⟨(some 15), (some (13, true)), .nilck (.tmp 14)⟩,
    ⟨(some 16), (some (13, true)), .fld 1 (.tmp 15)⟩,
    ⟨(some 17), (some (13, true)), .load (.tmp 16)⟩,
    ⟨(some 18), (some (13, true)), .bin .neq 3 (.tmp 17) (.const (Value.int IntKind.i64 0)) 3 4⟩,
    ⟨(some 19), none, .pick (.tmp 13) (.tmp 18) (.const (Value.bool false))⟩])
  (.cond (.tmp 19) (.reg [⟨(some 20), none, .mv (.tmp 0)⟩,
    ⟨(some 21), none, .call (.func 138) [(.tmp 20)]⟩]) .skip))
  (.seq (.seq (.reg [⟨(some 23), none, .mv (.tmp 0)⟩,
    ⟨(some 24), none, .mv (.tmp 1)⟩,
    ⟨(some 25), none, .call (.func 130) [(.tmp 23), (.tmp 24)]⟩,
    ⟨(some 22), none, .mv (.tmp 25)⟩,
    ⟨(some 26), none, .ext (.tmp 22) 0⟩,
    ⟨(some 27), none, .ext (.tmp 22) 1⟩,
    ⟨(some 6), none, .mv (.tmp 26)⟩,
    ⟨(some 7), none, .mv (.tmp 27)⟩])
  (.seq (.reg [⟨(some 28), none, .mv (.tmp 7)⟩])
  (.cond (.tmp 28) (.seq (.reg [⟨(some 29), none, .mv (.tmp 6)⟩,
    ⟨(some 4), none, .mv (.tmp 29)⟩])
  .ret) .skip)))
  (.seq (.seq (.reg [⟨(some 30), none, .mv (.tmp 0)⟩,
    ⟨(some 31), none, .nilck (.tmp 30)⟩,
    ⟨(some 32), none, .fld 0 (.tmp 31)⟩,
    ⟨(some 33), none, .load (.tmp 32)⟩,
    ⟨(some 34), none, .eqn false true (.tmp 33)⟩,
    ⟨(some 35), none, .mv (.tmp 34)⟩,
    ⟨(some 36), (some (35, true)), .mv (.tmp 1)⟩,
    ⟨(some 37), (some (35, true)), .bin .leq 3 (.tmp 36) (.const (Value.int IntKind.i64 64)) 3 4⟩,
    ⟨(some 38), none, .pick (.tmp 35) (.tmp 37) (.const (Value.bool false))⟩])
  (.cond (.tmp 38) (.seq (.reg [⟨(some 39), none, .mv (.tmp 0)⟩,
    ⟨(some 40), none, .mv (.tmp 1)⟩,
    ⟨(some 41), none, .bad⟩,
    ⟨(some 42), none, .nilck (.tmp 39)⟩,
    ⟨(some 43), none, .fld 0 (.tmp 42)⟩,
    ⟨none, none, .store 1 (.tmp 43) (.tmp 41)⟩])
  (.seq (.reg [⟨(some 4), none, .mv (.const (Value.int IntKind.i64 0))⟩])
  .ret)) .skip))
  (.seq (.reg [⟨(some 44), none, .mv (.tmp 0)⟩,
    ⟨(some 45), none, .nilck (.tmp 44)⟩,
    ⟨(some 46), none, .fld 0 (.tmp 45)⟩,
    ⟨(some 47), none, .load (.tmp 46)⟩,
    ⟨(some 48), none, .cap0 (.tmp 47)⟩,
    ⟨(some 8), none, .mv (.tmp 48)⟩])
  (.seq (.seq (.reg [⟨(some 49), none, .mv (.tmp 1)⟩,
    ⟨(some 50), none, .mv (.tmp 8)⟩,
    ⟨(some 51), none, .bin .quo 3 (.tmp 50) (.const (Value.int IntKind.i64 2)) 3 3⟩,
    ⟨(some 52), none, .mv (.tmp 5)⟩,
    ⟨(some 53), none, .bin .sub 3 (.tmp 51) (.tmp 52) 3 3⟩,
    ⟨(some 54), none, .bin .leq 3 (.tmp 49) (.tmp 53) 3 4⟩])
  (.cond (.tmp 54) (.drw [⟨(some 55), none, .mv (.tmp 0)⟩,
    ⟨(some 56), none, .nilck (.tmp 55)⟩,
    ⟨(some 57), none, .fld 0 (.tmp 56)⟩,
    ⟨(some 58), none, .load (.tmp 57)⟩,
    ⟨(some 59), none, .mv (.tmp 0)⟩,
    ⟨(some 60), none, .nilck (.tmp 59)⟩,
    ⟨(some 61), none, .fld 0 (.tmp 60)⟩,
    ⟨(some 62), none, .load (.tmp 61)⟩,
    ⟨(some 63), none, .mv (.tmp 0)⟩,
    ⟨(some 64), none, .nilck (.tmp 63)⟩,
    ⟨(some 65), none, .fld 1 (.tmp 64)⟩,
    ⟨(some 66), none, .load (.tmp 65)⟩,
    ⟨(some 67), none, .cut 1 (.tmp 62) (some (.tmp 66)) none none⟩,
    ⟨(some 68), none, .bad⟩] [[], [0], [1], [2], [], [4], [5], [6], [], [8], [9], [10], [7, 11], [3, 12]] [0, 1, 2, 3, 4, 5, 6, 7, 8, 9, 10, 11, 12, 13]) (.seq (.reg [⟨(some 69), none, .mv (.tmp 8)⟩,
    ⟨(some 70), none, .mv (.tmp 8)⟩,
    ⟨(some 71), none, .bin .sub 3 (.const (Value.int IntKind.i64 9223372036854775807)) (.tmp 70) 3 3⟩,
    ⟨(some 72), none, .mv (.tmp 1)⟩,
    ⟨(some 73), none, .bin .sub 3 (.tmp 71) (.tmp 72) 3 3⟩,
    ⟨(some 74), none, .bin .gtr 3 (.tmp 69) (.tmp 73) 3 4⟩])
  (.cond (.tmp 74) (.reg [⟨(some 75), none, .load (.global 2)⟩,
    ⟨none, none, .bad⟩]) (.drw [⟨(some 76), none, .mv (.tmp 0)⟩,
    ⟨(some 77), none, .mv (.tmp 0)⟩,
    ⟨(some 78), none, .nilck (.tmp 77)⟩,
    ⟨(some 79), none, .fld 0 (.tmp 78)⟩,
    ⟨(some 80), none, .load (.tmp 79)⟩,
    ⟨(some 81), none, .mv (.tmp 0)⟩,
    ⟨(some 82), none, .nilck (.tmp 81)⟩,
    ⟨(some 83), none, .fld 1 (.tmp 82)⟩,
    ⟨(some 84), none, .load (.tmp 83)⟩,
    ⟨(some 85), none, .cut 1 (.tmp 80) (some (.tmp 84)) none none⟩,
    ⟨(some 86), none, .mv (.tmp 0)⟩,
    ⟨(some 87), none, .nilck (.tmp 86)⟩,
    ⟨(some 88), none, .fld 1 (.tmp 87)⟩,
    ⟨(some 89), none, .load (.tmp 88)⟩,
    ⟨(some 90), none, .mv (.tmp 1)⟩,
    ⟨(some 91), none, .bin .add 3 (.tmp 89) (.tmp 90) 3 3⟩,
    ⟨(some 92), none, .call (.func 139) [(.tmp 85), (.tmp 91)]⟩,
    ⟨(some 93), none, .nilck (.tmp 76)⟩,
    ⟨(some 94), none, .fld 0 (.tmp 93)⟩,
    ⟨none, none, .store 1 (.tmp 94) (.tmp 92)⟩] [[], [], [1], [2], [3], [], [5], [6], [7], [4, 8], [], [10], [11], [12], [], [13, 14], [9, 15], [0, 0, 1, 2, 3, 4, 5, 6, 7, 8, 9, 10, 11, 12, 13, 14, 15, 16], [17, 0, 1, 2, 3, 4, 5, 6, 7, 8, 9, 10, 11, 12, 13, 14, 15, 16], [18, 16, 16, 0, 1, 2, 3, 4, 5, 6, 7, 8, 9, 10, 11, 12, 13, 14, 15, 16]] [0, 1, 2, 3, 4, 5, 6, 7, 8, 9, 10, 11, 12, 13, 14, 15, 16, 17, 18, 19])))))
  (.seq (.reg [⟨(some 95), none, .mv (.tmp 0)⟩,
    ⟨(some 96), none, .nilck (.tmp 95)⟩,
    ⟨(some 97), none, .fld 1 (.tmp 96)⟩,
    ⟨none, none, .store 1 (.tmp 97) (.const (Value.int IntKind.i64 0))⟩])
  (.seq (.reg [⟨(some 98), none, .mv (.tmp 0)⟩,
    ⟨(some 99), none, .mv (.tmp 0)⟩,
    ⟨(some 100), none, .nilck (.tmp 99)⟩,
    ⟨(some 101), none, .fld 0 (.tmp 100)⟩,
    ⟨(some 102), none, .load (.tmp 101)⟩,
    ⟨(some 103), none, .mv (.tmp 5)⟩,
    ⟨(some 104), none, .mv (.tmp 1)⟩,
    ⟨(some 105), none, .bin .add 3 (.tmp 103) (.tmp 104) 3 3⟩,
    ⟨(some 106), none, .cut 1 (.tmp 102) none (some (.tmp 105)) none⟩,
    ⟨(some 107), none, .nilck (.tmp 98)⟩,
    ⟨(some 108), none, .fld 0 (.tmp 107)⟩,
    ⟨none, none, .store 1 (.tmp 108) (.tmp 106)⟩])
  (.seq (.reg [⟨(some 109), none, .mv (.tmp 5)⟩,
    ⟨(some 4), none, .mv (.tmp 109)⟩])
  .ret)))))))))), 110, [.tmp 4], false⟩
theorem c131 : cmpF Tryz.prog [(12, [0, 1, 2, 3, 4, 5, 6, 7, 8, 9, 10, 11, 12, 13], [0, 1, 2, 3, 4, 5, 6, 7, 8, 9, 10, 11, 12, 13], [0, 1, 2, 3, 4, 5, 6, 7, 8, 9, 10, 11, 12, 13]), (15, [0, 1, 2, 3, 4, 5, 6, 7, 8, 9, 10, 11, 12, 13, 14, 15, 16, 17, 18, 19], [0, 1, 2, 3, 4, 5, 6, 7, 8, 9, 10, 11, 12, 13, 14, 15, 16, 17, 18, 19], [0, 1, 2, 3, 4, 5, 6, 7, 8, 9, 10, 11, 12, 13, 14, 15, 16, 17, 18, 19])] k131.pure 131 = some k131 := by kernel_rfl
-- (joist/float.bits).right
def k116 : KF := ⟨(.seq (.reg [⟨(some 2), none, .mv (.const (Value.bool false))⟩])
  (.seq (.reg [⟨(some 3), none, .mv (.tmp 0)⟩,
    ⟨(some 4), none, .bin .andNot 167 (.tmp 3) (.const (Value.int IntKind.u64 9223372036854775808)) 167 167⟩,
    ⟨(some 5), none, .bin .leq 167 (.tmp 4) (.const (Value.int IntKind.u64 9218868437227405312)) 167 4⟩,
    ⟨(some 6), none, .mv (.tmp 5)⟩,
    ⟨(some 7), (some (6, false)), .mv (.tmp 0)⟩,
    ⟨(some 8), (some (6, false)), .bin .eql 167 (.tmp 7) (.const (Value.int IntKind.u64 9221120237041090560)) 167 4⟩,
    ⟨(some 9), none, .pick (.tmp 6) (.const (Value.bool true)) (.tmp 8)⟩,
    ⟨(some 2), none, .mv (.tmp 9)⟩])
  .ret)), 10, [.tmp 2], false⟩
theorem c116 : cmpF Tryz.prog [] k116.pure 116 = some k116 := by kernel_rfl
-- unicode/utf8.word[string]
def k117 : KF := ⟨(.seq (.reg [⟨(some 2), none, .mv (.const (Value.int IntKind.u64 0))⟩])
  (.seq (.cond (.const (Value.bool false)) (.seq (.drw [⟨(some 3), none, .mv (.tmp 0)⟩,
    ⟨(some 4), none, .idxS (.tmp 3) (.const (Value.int IntKind.i64 0))⟩,
    ⟨(some 5), none, .conv .u64 (.tmp 4)⟩,
    ⟨(some 6), none, .mv (.tmp 0)⟩,
    ⟨(some 7), none, .idxS (.tmp 6) (.const (Value.int IntKind.i64 1))⟩,
    ⟨(some 8), none, .conv .u64 (.tmp 7)⟩,
    ⟨(some 9), none, .bin .shl 12 (.tmp 8) (.const (Value.int IntKind.u64 8)) 143 12⟩,
    ⟨(some 10), none, .bin .or 12 (.tmp 5) (.tmp 9) 12 12⟩,
    ⟨(some 11), none, .mv (.tmp 0)⟩,
    ⟨(some 12), none, .idxS (.tmp 11) (.const (Value.int IntKind.i64 2))⟩,
    ⟨(some 13), none, .conv .u64 (.tmp 12)⟩,
    ⟨(some 14), none, .bin .shl 12 (.tmp 13) (.const (Value.int IntKind.u64 16)) 143 12⟩,
    ⟨(some 15), none, .bin .or 12 (.tmp 10) (.tmp 14) 12 12⟩,
    ⟨(some 16), none, .mv (.tmp 0)⟩,
    ⟨(some 17), none, .idxS (.tmp 16) (.const (Value.int IntKind.i64 3))⟩,
    ⟨(some 18), none, .conv .u64 (.tmp 17)⟩,
    ⟨(some 19), none, .bin .shl 12 (.tmp 18) (.const (Value.int IntKind.u64 24)) 143 12⟩,
    ⟨(some 20), none, .bin .or 12 (.tmp 15) (.tmp 19) 12 12⟩,
    ⟨(some 2), none, .mv (.tmp 20)⟩] [[], [0], [1], [], [3], [4], [5], [2, 6], [], [8], [9], [10], [7, 11], [], [13], [14], [15], [12, 16], [17, 0, 1, 2, 3, 4, 5, 6, 7, 8, 9, 10, 11, 12, 13, 14, 15, 16, 17]] [0, 1, 2, 3, 4, 5, 6, 7, 8, 9, 10, 11, 12, 13, 14, 15, 16, 17, 18])
  .ret) .skip)
  (.seq (.drw [⟨(some 21), none, .mv (.tmp 0)⟩,
    ⟨(some 22), none, .idxS (.tmp 21) (.const (Value.int IntKind.i64 0))⟩,
    ⟨(some 23), none, .conv .u64 (.tmp 22)⟩,
    ⟨(some 24), none, .mv (.tmp 0)⟩,
    ⟨(some 25), none, .idxS (.tmp 24) (.const (Value.int IntKind.i64 1))⟩,
    ⟨(some 26), none, .conv .u64 (.tmp 25)⟩,
    ⟨(some 27), none, .bin .shl 140 (.tmp 26) (.const (Value.int IntKind.u64 8)) 143 140⟩,
    ⟨(some 28), none, .bin .or 140 (.tmp 23) (.tmp 27) 140 140⟩,
    ⟨(some 29), none, .mv (.tmp 0)⟩,
    ⟨(some 30), none, .idxS (.tmp 29) (.const (Value.int IntKind.i64 2))⟩,
    ⟨(some 31), none, .conv .u64 (.tmp 30)⟩,
    ⟨(some 32), none, .bin .shl 140 (.tmp 31) (.const (Value.int IntKind.u64 16)) 143 140⟩,
    ⟨(some 33), none, .bin .or 140 (.tmp 28) (.tmp 32) 140 140⟩,
    ⟨(some 34), none, .mv (.tmp 0)⟩,
    ⟨(some 35), none, .idxS (.tmp 34) (.const (Value.int IntKind.i64 3))⟩,
    ⟨(some 36), none, .conv .u64 (.tmp 35)⟩,
    ⟨(some 37), none, .bin .shl 140 (.tmp 36) (.const (Value.int IntKind.u64 24)) 143 140⟩,
    ⟨(some 38), none, .bin .or 140 (.tmp 33) (.tmp 37) 140 140⟩,
    ⟨(some 39), none, .mv (.tmp 0)⟩,
    ⟨(some 40), none, .idxS (.tmp 39) (.const (Value.int IntKind.i64 4))⟩,
    ⟨(some 41), none, .conv .u64 (.tmp 40)⟩,
    ⟨(some 42), none, .bin .shl 140 (.tmp 41) (.const (Value.int IntKind.u64 32)) 143 140⟩,
    ⟨(some 43), none, .bin .or 140 (.tmp 38) (.tmp 42) 140 140⟩,
    ⟨(some 44), none, .mv (.tmp 0)⟩,
    ⟨(some 45), none, .idxS (.tmp 44) (.const (Value.int IntKind.i64 5))⟩,
    ⟨(some 46), none, .conv .u64 (.tmp 45)⟩,
    ⟨(some 47), none, .bin .shl 140 (.tmp 46) (.const (Value.int IntKind.u64 40)) 143 140⟩,
    ⟨(some 48), none, .bin .or 140 (.tmp 43) (.tmp 47) 140 140⟩,
    ⟨(some 49), none, .mv (.tmp 0)⟩,
    ⟨(some 50), none, .idxS (.tmp 49) (.const (Value.int IntKind.i64 6))⟩,
    ⟨(some 51), none, .conv .u64 (.tmp 50)⟩,
    ⟨(some 52), none, .bin .shl 140 (.tmp 51) (.const (Value.int IntKind.u64 48)) 143 140⟩,
    ⟨(some 53), none, .bin .or 140 (.tmp 48) (.tmp 52) 140 140⟩,
    ⟨(some 54), none, .mv (.tmp 0)⟩,
    ⟨(some 55), none, .idxS (.tmp 54) (.const (Value.int IntKind.i64 7))⟩,
    ⟨(some 56), none, .conv .u64 (.tmp 55)⟩,
    ⟨(some 57), none, .bin .shl 140 (.tmp 56) (.const (Value.int IntKind.u64 56)) 143 140⟩,
    ⟨(some 58), none, .bin .or 140 (.tmp 53) (.tmp 57) 140 140⟩,
    ⟨(some 2), none, .mv (.tmp 58)⟩] [[], [0], [1], [], [3], [4], [5], [2, 6], [], [8], [9], [10], [7, 11], [], [13], [14], [15], [12, 16], [], [18], [19], [20], [17, 21], [], [23], [24], [25], [22, 26], [], [28], [29], [30], [27, 31], [], [33], [34], [35], [32, 36], [37, 0, 1, 2, 3, 4, 5, 6, 7, 8, 9, 10, 11, 12, 13, 14, 15, 16, 17, 18, 19, 20, 21, 22, 23, 24, 25, 26, 27, 28, 29, 30, 31, 32, 33, 34, 35, 36, 37]] [0, 1, 2, 3, 4, 5, 6, 7, 8, 9, 10, 11, 12, 13, 14, 15, 16, 17, 18, 19, 20, 21, 22, 23, 24, 25, 26, 27, 28, 29, 30, 31, 32, 33, 34, 35, 36, 37, 38])
  .ret))), 59, [.tmp 2], false⟩
theorem c117 : cmpF Tryz.prog [(1, [0, 1, 2, 3, 4, 5, 6, 7, 8, 9, 10, 11, 12, 13, 14, 15, 16, 17, 18], [0, 1, 2, 3, 4, 5, 6, 7, 8, 9, 10, 11, 12, 13, 14, 15, 16, 17, 18], [0, 1, 2, 3, 4, 5, 6, 7, 8, 9, 10, 11, 12, 13, 14, 15, 16, 17, 18]), (2, [0, 1, 2, 3, 4, 5, 6, 7, 8, 9, 10, 11, 12, 13, 14, 15, 16, 17, 18, 19, 20, 21, 22, 23, 24, 25, 26, 27, 28, 29, 30, 31, 32, 33, 34, 35, 36, 37, 38], [0, 1, 2, 3, 4, 5, 6, 7, 8, 9, 10, 11, 12, 13, 14, 15, 16, 17, 18, 19, 20, 21, 22, 23, 24, 25, 26, 27, 28, 29, 30, 31, 32, 33, 34, 35, 36, 37, 38], [0, 1, 2, 3, 4, 5, 6, 7, 8, 9, 10, 11, 12, 13, 14, 15, 16, 17, 18, 19, 20, 21, 22, 23, 24, 25, 26, 27, 28, 29, 30, 31, 32, 33, 34, 35, 36, 37, 38])] k117.pure 117 = some k117 := by kernel_rfl
-- (joist/float.bits).rank
def k132 : KF := ⟨(.seq (.reg [⟨(some 2), none, .mv (.const (Value.int IntKind.u64 0))⟩])
  (.seq (.blk 0 (.seq (.reg [⟨(some 4), none, .mv (.tmp 0)⟩,
    ⟨(some 5), none, .call (.func 116) [(.tmp 4)]⟩,
    ⟨(some 6), none, .not (.tmp 5)⟩,
    ⟨(some 3), none, .mv (.tmp 6)⟩])
  (.cond (.tmp 3) (.seq (.reg [⟨(some 7), none, .call (.func 132) [(.const (Value.int IntKind.u64 9221120237041090560))]⟩,
    ⟨(some 2), none, .mv (.tmp 7)⟩])
  .ret) (.seq (.reg [⟨(some 9), none, .mv (.tmp 0)⟩,
    ⟨(some 10), none, .call (.func 140) [(.tmp 9)]⟩,
    ⟨(some 8), none, .mv (.tmp 10)⟩])
  (.cond (.tmp 8) (.seq (.reg [⟨(some 11), none, .mv (.tmp 0)⟩,
    ⟨(some 12), none, .gen (Op.unOp UnOp.xor 167 (Operand.tmp 11)) 167⟩,
    ⟨(some 2), none, .mv (.tmp 12)⟩])
  .ret) .skip)))))
  (.seq (.reg [⟨(some 13), none, .mv (.tmp 0)⟩,
    ⟨(some 14), none, .bin .or 167 (.tmp 13) (.const (Value.int IntKind.u64 9223372036854775808)) 167 167⟩,
    ⟨(some 2), none, .mv (.tmp 14)⟩])
  .ret))), 15, [.tmp 2], false⟩
theorem c132 : cmpF Tryz.prog [] k132.pure 132 = some k132 := by kernel_rfl
-- strings.ReplaceAll
def k133 : KF := ⟨(.seq (.reg [⟨(some 6), none, .mv (.const (Value.string { data := #[] }))⟩])
  (.seq (.reg [⟨(some 7), none, .mv (.tmp 0)⟩,
    ⟨(some 8), none, .mv (.tmp 1)⟩,
    ⟨(some 9), none, .mv (.tmp 2)⟩,
    ⟨(some 10), none, .call (.func 141) [(.tmp 7), (.tmp 8), (.tmp 9), (.const (Value.int IntKind.i64 (-1)))]⟩,
    ⟨(some 6), none, .mv (.tmp 10)⟩])
  .ret)), 11, [.tmp 6], false⟩
theorem c133 : cmpF Tryz.prog [] k133.pure 133 = some k133 := by kernel_rfl
-- (joist/float.bits).unrank
def k134 : KF := ⟨(.seq (.reg [⟨(some 2), none, .mv (.const (Value.int IntKind.u64 0))⟩])
  (.seq (.seq (.reg [⟨(some 3), none, .mv (.tmp 0)⟩,
    ⟨(some 4), none, .call (.func 140) [(.tmp 3)]⟩])
  (.cond (.tmp 4) (.seq (.reg [⟨(some 5), none, .mv (.tmp 0)⟩,
    ⟨(some 6), none, .bin .andNot 167 (.tmp 5) (.const (Value.int IntKind.u64 9223372036854775808)) 167 167⟩,
    ⟨(some 2), none, .mv (.tmp 6)⟩])
  .ret) .skip))
  (.seq (.reg [⟨(some 7), none, .mv (.tmp 0)⟩,
    ⟨(some 8), none, .gen (Op.unOp UnOp.xor 167 (Operand.tmp 7)) 167⟩,
    ⟨(some 2), none, .mv (.tmp 8)⟩])
  .ret))), 9, [.tmp 2], false⟩
theorem c134 : cmpF Tryz.prog [] k134.pure 134 = some k134 := by kernel_rfl
-- (joist/float.bits).number
def k135 : KF := ⟨(.seq (.reg [⟨(some 2), none, .mv (.const (Value.int IntKind.i64 0))⟩])
  (.seq (.reg [⟨(some 3), none, .mv (.tmp 0)⟩,
    ⟨(some 4), none, .conv .i64 (.tmp 3)⟩,
    ⟨(some 2), none, .mv (.tmp 4)⟩])
  .ret)), 5, [.tmp 2], false⟩
theorem c135 : cmpF Tryz.prog [] k135.pure 135 = some k135 := by kernel_rfl
-- bytes.IndexByte
def k136 : KF := ⟨(.seq (.reg [⟨(some 4), none, .mv (.const (Value.int IntKind.i64 0))⟩])
  (.seq (.reg [⟨(some 5), none, .mv (.tmp 0)⟩,
    ⟨(some 6), none, .mv (.tmp 1)⟩,
    ⟨(some 7), none, .call (.func 142) [(.tmp 5), (.tmp 6)]⟩,
    ⟨(some 4), none, .mv (.tmp 7)⟩])
  .ret)), 8, [.tmp 4], false⟩
theorem c136 : cmpF Tryz.prog [] k136.pure 136 = some k136 := by kernel_rfl
-- (*bytes.Buffer).Len
def k137 : KF := ⟨(.seq (.reg [⟨(some 2), none, .mv (.const (Value.int IntKind.i64 0))⟩])
  (.seq (.drw [⟨(some 3), none, .mv (.tmp 0)⟩,
    ⟨(some 4), none, .nilck (.tmp 3)⟩,
    ⟨(some 5), none, .fld 0 (.tmp 4)⟩,
    ⟨(some 6), none, .load (.tmp 5)⟩,
    ⟨(some 7), none, .len (.tmp 6)⟩,
    ⟨(some 8), none, .mv (.tmp 0)⟩,
    ⟨(some 9), none, .nilck (.tmp 8)⟩,
    ⟨(some 10), none, .fld 1 (.tmp 9)⟩,
    ⟨(some 11), none, .load (.tmp 10)⟩,
    ⟨(some 12), none, .bin .sub 3 (.tmp 7) (.tmp 11) 3 3⟩,
    ⟨(some 2), none, .mv (.tmp 12)⟩] [[], [0], [1], [2], [3], [], [5], [6], [7], [4, 8], [9, 0, 1, 2, 3, 4, 5, 6, 7, 8, 9]] [0, 1, 2, 3, 4, 5, 6, 7, 8, 9, 10])
  .ret)), 13, [.tmp 2], false⟩
theorem c137 : cmpF Tryz.prog [(1, [0, 1, 2, 3, 4, 5, 6, 7, 8, 9, 10], [0, 1, 2, 3, 4, 5, 6, 7, 8, 9, 10], [0, 1, 2, 3, 4, 5, 6, 7, 8, 9, 10])] k137.pure 137 = some k137 := by kernel_rfl
-- (*bytes.Buffer).Reset
def k138 : KF := ⟨(.seq (.reg [⟨(some 2), none, .mv (.tmp 0)⟩,
    ⟨(some 3), none, .mv (.tmp 0)⟩,
    ⟨(some 4), none, .nilck (.tmp 3)⟩,
    ⟨(some 5), none, .fld 0 (.tmp 4)⟩,
    ⟨(some 6), none, .load (.tmp 5)⟩,
    ⟨(some 7), none, .cut 1 (.tmp 6) none (some (.const (Value.int IntKind.i64 0))) none⟩,
    ⟨(some 8), none, .nilck (.tmp 2)⟩,
    ⟨(some 9), none, .fld 0 (.tmp 8)⟩,
    ⟨none, none, .store 1 (.tmp 9) (.tmp 7)⟩])
  (.seq (.reg [⟨(some 10), none, .mv (.tmp 0)⟩,
    ⟨(some 11), none, .nilck (.tmp 10)⟩,
    ⟨(some 12), none, .fld 1 (.tmp 11)⟩,
    ⟨none, none, .store 1 (.tmp 12) (.const (Value.int IntKind.i64 0))⟩])
  (.reg [⟨(some 13), none, .mv (.tmp 0)⟩,
    ⟨(some 14), none, .nilck (.tmp 13)⟩,
    ⟨(some 15), none, .fld 2 (.tmp 14)⟩,
    ⟨none, none, .store 1 (.tmp 15) (.const (Value.int IntKind.i8 0))⟩]))), 16, [], false⟩
theorem c138 : cmpF Tryz.prog [] k138.pure 138 = some k138 := by kernel_rfl
-- bytes.growSlice
def k139 : KF := ⟨(.seq (.reg [⟨(some 4), none, .mv (.const (Value.slice none 0 0))⟩])
  (.seq (.reg [⟨none, none, .bad⟩])
  (.seq (.reg [⟨(some 8), none, .mv (.tmp 0)⟩,
    ⟨(some 9), none, .len (.tmp 8)⟩,
    ⟨(some 10), none, .mv (.tmp 1)⟩,
    ⟨(some 11), none, .bin .add 3 (.tmp 9) (.tmp 10) 3 3⟩,
    ⟨(some 5), none, .mv (.tmp 11)⟩])
  (.seq (.seq (.reg [⟨(some 12), none, .mv (.tmp 5)⟩,
    ⟨(some 13), none, .mv (.tmp 0)⟩,
    ⟨(some 14), none, .cap0 (.tmp 13)⟩,
    ⟨(some 15), none, .bin .mul 3 (.const (Value.int IntKind.i64 2)) (.tmp 14) 3 3⟩,
    ⟨(some 16), none, .bin .lss 3 (.tmp 12) (.tmp 15) 3 4⟩])
  (.cond (.tmp 16) (.reg [⟨(some 17), none, .mv (.tmp 0)⟩,
    ⟨(some 18), none, .cap0 (.tmp 17)⟩,
    ⟨(some 19), none, .bin .mul 3 (.const (Value.int IntKind.i64 2)) (.tmp 18) 3 3⟩,
    ⟨(some 5), none, .mv (.tmp 19)⟩]) .skip))
  (.seq (.reg [⟨(some 20), none, .mv (.tmp 5)⟩,
    ⟨(some 21), none, .appZ 1 1 [Value.int IntKind.u8 0] (.const (Value.slice none 0 0)) (.tmp 20)⟩,
    ⟨(some 6), none, .mv (.tmp 21)⟩])
  (.seq (.reg [⟨(some 22), none, .mv (.tmp 6)⟩,
    ⟨(some 23), none, .mv (.tmp 0)⟩,
    ⟨(some 24), none, .bad⟩,
    ⟨(some 7), none, .mv (.tmp 24)⟩])
  (.seq (.reg [⟨(some 25), none, .mv (.tmp 6)⟩,
    ⟨(some 26), none, .mv (.tmp 7)⟩,
    ⟨(some 27), none, .cut 1 (.tmp 25) none (some (.tmp 26)) none⟩,
    ⟨(some 4), none, .mv (.tmp 27)⟩])
  .ret))))))), 28, [.tmp 4], false⟩
theorem c139 : cmpF Tryz.prog [] k139.pure 139 = some k139 := by kernel_rfl
-- (joist/float.bits).negative
def k140 : KF := ⟨(.seq (.reg [⟨(some 2), none, .mv (.const (Value.bool false))⟩])
  (.seq (.reg [⟨(some 3), none, .mv (.tmp 0)⟩,
    ⟨(some 4), none, .bin .and 167 (.tmp 3) (.const (Value.int IntKind.u64 9223372036854775808)) 167 167⟩,
    ⟨(some 5), none, .bin .neq 167 (.tmp 4) (.const (Value.int IntKind.u64 0)) 167 4⟩,
    ⟨(some 2), none, .mv (.tmp 5)⟩])
  .ret)), 6, [.tmp 2], false⟩
theorem c140 : cmpF Tryz.prog [] k140.pure 140 = some k140 := by kernel_rfl
-- strings.Replace
def k141 : KF := ⟨(.seq (.reg [⟨(some 8), none, .mv (.const (Value.string { data := #[] }))⟩])
  (.seq (.seq (.reg [⟨(some 16), none, .mv (.tmp 1)⟩,
    ⟨(some 17), none, .mv (.tmp 2)⟩,
    ⟨(some 18), none, .bin .eql 9 (.tmp 16) (.tmp 17) 9 4⟩,
    ⟨(some 19), none, .mv (.tmp 18)⟩,
    ⟨(some 20), (some (19, false)), .mv (.tmp 3)⟩,
    ⟨(some 21), (some (19, false)), .bin .eql 3 (.tmp 20) (.const (Value.int IntKind.i64 0)) 3 4⟩,
    ⟨(some 22), none, .pick (.tmp 19) (.const (Value.bool true)) (.tmp 21)⟩])
  (.cond (.tmp 22) (.seq (.reg [⟨(some 23), none, .mv (.tmp 0)⟩,
    ⟨(some 8), none, .mv (.tmp 23)⟩])
  .ret) .skip))
  (.seq (.seq (.reg [⟨(some 24), none, .mv (.tmp 0)⟩,
    ⟨(some 25), none, .mv (.tmp 1)⟩,
    ⟨(some 26), none, .call (.func 144) [(.tmp 24), (.tmp 25)]⟩,
    ⟨(some 9), none, .mv (.tmp 26)⟩])
  (.seq (.reg [⟨(some 27), none, .mv (.tmp 9)⟩,
    ⟨(some 28), none, .bin .eql 3 (.tmp 27) (.const (Value.int IntKind.i64 0)) 3 4⟩])
  (.cond (.tmp 28) (.seq (.reg [⟨(some 29), none, .mv (.tmp 0)⟩,
    ⟨(some 8), none, .mv (.tmp 29)⟩])
  .ret) (.seq (.reg [⟨(some 30), none, .mv (.tmp 3)⟩,
    ⟨(some 31), none, .bin .lss 3 (.tmp 30) (.const (Value.int IntKind.i64 0)) 3 4⟩,
    ⟨(some 32), none, .mv (.tmp 31)⟩,
    ⟨(some 33), (some (32, false)), .mv (.tmp 9)⟩,
    ⟨(some 34), (some (32, false)), .mv (.tmp 3)⟩,
    ⟨(some 35), (some (32, false)), .bin .lss 3 (.tmp 33) (.tmp 34) 3 4⟩,
    ⟨(some 36), none, .pick (.tmp 32) (.const (Value.bool true)) (.tmp 35)⟩])
  (.cond (.tmp 36) (.reg [⟨(some 37), none, .mv (.tmp 9)⟩,
    ⟨(some 3), none, .mv (.tmp 37)⟩]) .skip)))))
  (.seq (.reg [⟨(some 10), none, .alloc [Value.pointer none, Value.slice none 0 0]⟩])
  (.seq (.reg [⟨(some 38), none, .mv (.tmp 0)⟩,
    ⟨(some 39), none, .lenS (.tmp 38)⟩,
    ⟨(some 40), none, .mv (.tmp 3)⟩,
    ⟨(some 41), none, .mv (.tmp 2)⟩,
    ⟨(some 42), none, .lenS (.tmp 41)⟩,
    ⟨(some 43), none, .mv (.tmp 1)⟩,
    ⟨(some 44), none, .lenS (.tmp 43)⟩,
    ⟨(some 45), none, .bin .sub 3 (.tmp 42) (.tmp 44) 3 3⟩,
    ⟨(some 46), none, .bin .mul 3 (.tmp 40) (.tmp 45) 3 3⟩,
    ⟨(some 47), none, .bin .add 3 (.tmp 39) (.tmp 46) 3 3⟩,
    ⟨(some 48), none, .call (.func 145) [(.tmp 10), (.tmp 47)]⟩])
  (.seq (.reg [⟨(some 11), none, .mv (.const (Value.int IntKind.i64 0))⟩])
  (.seq (.seq (.reg [⟨(some 49), none, .mv (.tmp 1)⟩,
    ⟨(some 50), none, .lenS (.tmp 49)⟩,
    ⟨(some 51), none, .bin .gtr 3 (.tmp 50) (.const (Value.int IntKind.i64 0)) 3 4⟩])
  (.cond (.tmp 51) (.seq (.reg [⟨(some 52), none, .mv (.tmp 3)⟩,
    ⟨(some 53), none, .mv (.const (Value.int IntKind.i64 0))⟩])
  (.blk 0 (.loop (.seq (.reg [⟨(some 54), none, .bin .lss 3 (.tmp 53) (.tmp 52) 3 4⟩])
  (.seq (.cond (.tmp 54) .skip (.exit 0))
  (.seq (.blk 1 (.seq (.reg [⟨(some 55), none, .mv (.tmp 11)⟩,
    ⟨(some 56), none, .mv (.tmp 0)⟩,
    ⟨(some 57), none, .mv (.tmp 11)⟩,
    ⟨(some 58), none, .gen (Op.slice 9 (Operand.tmp 56) (some (Operand.tmp 57)) none none) 9⟩,
    ⟨(some 59), none, .mv (.tmp 1)⟩,
    ⟨(some 60), none, .call (.func 146) [(.tmp 58), (.tmp 59)]⟩,
    ⟨(some 61), none, .bin .add 3 (.tmp 55) (.tmp 60) 3 3⟩,
    ⟨(some 12), none, .mv (.tmp 61)⟩])
  (.seq (.reg [⟨(some 62), none, .mv (.tmp 0)⟩,
    ⟨(some 63), none, .mv (.tmp 11)⟩,
    ⟨(some 64), none, .mv (.tmp 12)⟩,
    ⟨(some 65), none, .gen (Op.slice 9 (Operand.tmp 62) (some (Operand.tmp 63)) (some (Operand.tmp 64)) none) 9⟩,
    ⟨(some 66), none, .call (.func 147) [(.tmp 10), (.tmp 65)]⟩])
  (.seq (.reg [⟨(some 67), none, .mv (.tmp 2)⟩,
    ⟨(some 68), none, .call (.func 147) [(.tmp 10), (.tmp 67)]⟩])
  (.reg [⟨(some 69), none, .mv (.tmp 12)⟩,
    ⟨(some 70), none, .mv (.tmp 1)⟩,
    ⟨(some 71), none, .lenS (.tmp 70)⟩,
    ⟨(some 72), none, .bin .add 3 (.tmp 69) (.tmp 71) 3 3⟩,
    ⟨(some 11), none, .mv (.tmp 72)⟩])))))
  (.reg [⟨(some 73), none, .bin .add 3 (.tmp 53) (.const (Value.int IntKind.i64 1)) 3 3⟩,
    ⟨(some 53), none, .mv (.tmp 73)⟩]))))))) (.seq (.reg [⟨(some 74), none, .mv (.tmp 2)⟩,
    ⟨(some 75), none, .call (.func 147) [(.tmp 10), (.tmp 74)]⟩])
  (.seq (.reg [⟨(some 76), none, .mv (.tmp 3)⟩,
    ⟨(some 77), none, .bin .sub 3 (.tmp 76) (.const (Value.int IntKind.i64 1)) 3 3⟩,
    ⟨(some 78), none, .mv (.const (Value.int IntKind.i64 0))⟩])
  (.blk 2 (.loop (.seq (.reg [⟨(some 79), none, .bin .lss 3 (.tmp 78) (.tmp 77) 3 4⟩])
  (.seq (.cond (.tmp 79) .skip (.exit 2))
  (.seq (.blk 3 (.seq (.reg [⟨(some 81), none, .mv (.tmp 0)⟩,
    ⟨(some 82), none, .mv (.tmp 11)⟩,
    ⟨(some 83), none, .gen (Op.slice 9 (Operand.tmp 81) (some (Operand.tmp 82)) none none) 9⟩,
    ⟨(some 84), none, .call (.func 148) [(.tmp 83)]⟩,
    ⟨(some 80), none, .mv (.tmp 84)⟩,
    ⟨(some 85), none, .ext (.tmp 80) 0⟩,
    ⟨(some 86), none, .ext (.tmp 80) 1⟩,
    ⟨(some 13), none, .mv (.tmp 85)⟩,
    ⟨(some 14), none, .mv (.tmp 86)⟩])
  (.seq (.reg [⟨(some 87), none, .mv (.tmp 11)⟩,
    ⟨(some 88), none, .mv (.tmp 14)⟩,
    ⟨(some 89), none, .bin .add 3 (.tmp 87) (.tmp 88) 3 3⟩,
    ⟨(some 15), none, .mv (.tmp 89)⟩])
  (.seq (.reg [⟨(some 90), none, .mv (.tmp 0)⟩,
    ⟨(some 91), none, .mv (.tmp 11)⟩,
    ⟨(some 92), none, .mv (.tmp 15)⟩,
    ⟨(some 93), none, .gen (Op.slice 9 (Operand.tmp 90) (some (Operand.tmp 91)) (some (Operand.tmp 92)) none) 9⟩,
    ⟨(some 94), none, .call (.func 147) [(.tmp 10), (.tmp 93)]⟩])
  (.seq (.reg [⟨(some 95), none, .mv (.tmp 2)⟩,
    ⟨(some 96), none, .call (.func 147) [(.tmp 10), (.tmp 95)]⟩])
  (.reg [⟨(some 97), none, .mv (.tmp 15)⟩,
    ⟨(some 11), none, .mv (.tmp 97)⟩]))))))
  (.reg [⟨(some 98), none, .bin .add 3 (.tmp 78) (.const (Value.int IntKind.i64 1)) 3 3⟩,
    ⟨(some 78), none, .mv (.tmp 98)⟩]))))))))))
  (.seq (.reg [⟨(some 99), none, .mv (.tmp 0)⟩,
    ⟨(some 100), none, .mv (.tmp 11)⟩,
    ⟨(some 101), none, .gen (Op.slice 9 (Operand.tmp 99) (some (Operand.tmp 100)) none none) 9⟩,
    ⟨(some 102), none, .call (.func 147) [(.tmp 10), (.tmp 101)]⟩])
  (.seq (.reg [⟨(some 103), none, .call (.func 149) [(.tmp 10)]⟩,
    ⟨(some 8), none, .mv (.tmp 103)⟩])
  .ret))))))))), 104, [.tmp 8], false⟩
theorem c141 : cmpF Tryz.prog [] k141.pure 141 = some k141 := by kernel_rfl
-- strings.Count
def k144 : KF := ⟨(.seq (.reg [⟨(some 4), none, .mv (.const (Value.int IntKind.i64 0))⟩])
  (.seq (.seq (.reg [⟨(some 7), none, .mv (.tmp 1)⟩,
    ⟨(some 8), none, .lenS (.tmp 7)⟩,
    ⟨(some 9), none, .bin .eql 3 (.tmp 8) (.const (Value.int IntKind.i64 0)) 3 4⟩])
  (.cond (.tmp 9) (.seq (.reg [⟨(some 10), none, .mv (.tmp 0)⟩,
    ⟨(some 11), none, .call (.func 150) [(.tmp 10)]⟩,
    ⟨(some 12), none, .bin .add 3 (.tmp 11) (.const (Value.int IntKind.i64 1)) 3 3⟩,
    ⟨(some 4), none, .mv (.tmp 12)⟩])
  .ret) .skip))
  (.seq (.seq (.reg [⟨(some 13), none, .mv (.tmp 1)⟩,
    ⟨(some 14), none, .lenS (.tmp 13)⟩,
    ⟨(some 15), none, .bin .eql 3 (.tmp 14) (.const (Value.int IntKind.i64 1)) 3 4⟩])
  (.cond (.tmp 15) (.seq (.reg [⟨(some 16), none, .mv (.tmp 0)⟩,
    ⟨(some 17), none, .mv (.tmp 1)⟩,
    ⟨(some 18), none, .idxS (.tmp 17) (.const (Value.int IntKind.i64 0))⟩,
    ⟨(some 19), none, .call (.func 151) [(.tmp 16), (.tmp 18)]⟩,
    ⟨(some 4), none, .mv (.tmp 19)⟩])
  .ret) .skip))
  (.seq (.reg [⟨(some 5), none, .mv (.const (Value.int IntKind.i64 0))⟩])
  (.blk 0 (.loop (.blk 1 (.seq (.reg [⟨(some 20), none, .mv (.tmp 0)⟩,
    ⟨(some 21), none, .mv (.tmp 1)⟩,
    ⟨(some 22), none, .call (.func 146) [(.tmp 20), (.tmp 21)]⟩,
    ⟨(some 6), none, .mv (.tmp 22)⟩])
  (.seq (.seq (.reg [⟨(some 23), none, .mv (.tmp 6)⟩,
    ⟨(some 24), none, .bin .eql 3 (.tmp 23) (.const (Value.int IntKind.i64 (-1))) 3 4⟩])
  (.cond (.tmp 24) (.seq (.reg [⟨(some 25), none, .mv (.tmp 5)⟩,
    ⟨(some 4), none, .mv (.tmp 25)⟩])
  .ret) .skip))
  (.seq (.reg [⟨(some 26), none, .mv (.tmp 5)⟩,
    ⟨(some 27), none, .bin .add 3 (.tmp 26) (.const (Value.int IntKind.i64 1)) 3 3⟩,
    ⟨(some 5), none, .mv (.tmp 27)⟩])
  (.reg [⟨(some 28), none, .mv (.tmp 0)⟩,
    ⟨(some 29), none, .mv (.tmp 6)⟩,
    ⟨(some 30), none, .mv (.tmp 1)⟩,
    ⟨(some 31), none, .lenS (.tmp 30)⟩,
    ⟨(some 32), none, .bin .add 3 (.tmp 29) (.tmp 31) 3 3⟩,
    ⟨(some 33), none, .gen (Op.slice 9 (Operand.tmp 28) (some (Operand.tmp 32)) none none) 9⟩,
    ⟨(some 0), none, .mv (.tmp 33)⟩]))))))))))), 34, [.tmp 4], false⟩
theorem c144 : cmpF Tryz.prog [] k144.pure 144 = some k144 := by kernel_rfl
-- (*strings.Builder).Grow
def k145 : KF := ⟨(.seq (.reg [⟨(some 4), none, .mv (.tmp 0)⟩,
    ⟨(some 5), none, .call (.func 152) [(.tmp 4)]⟩])
  (.seq (.seq (.reg [⟨(some 6), none, .mv (.tmp 1)⟩,
    ⟨(some 7), none, .bin .lss 3 (.tmp 6) (.const (Value.int IntKind.i64 0)) 3 4⟩])
  (.cond (.tmp 7) (.reg [⟨(some 8), none, .bad⟩,
    ⟨none, none, .bad⟩]) .skip))
  (.seq (.drw [⟨(some 9), none, .mv (.tmp 0)⟩,
    ⟨(some 10), none, .nilck (.tmp 9)⟩,
    ⟨(some 11), none, .fld 1 (.tmp 10)⟩,
    ⟨(some 12), none, .load (.tmp 11)⟩,
    ⟨(some 13), none, .cap0 (.tmp 12)⟩,
    ⟨(some 14), none, .mv (.tmp 0)⟩,
    ⟨(some 15), none, .nilck (.tmp 14)⟩,
    ⟨(some 16), none, .fld 1 (.tmp 15)⟩,
    ⟨(some 17), none, .load (.tmp 16)⟩,
    ⟨(some 18), none, .len (.tmp 17)⟩,
    ⟨(some 19), none, .bin .sub 3 (.tmp 13) (.tmp 18) 3 3⟩,
    ⟨(some 20), none, .mv (.tmp 1)⟩,
    ⟨(some 21), none, .bin .lss 3 (.tmp 19) (.tmp 20) 3 4⟩] [[], [0], [1], [2], [3], [], [5], [6], [7], [8], [4, 9], [], [10, 11]] [0, 1, 2, 3, 4, 5, 6, 7, 8, 9, 10, 11, 12])
  (.cond (.tmp 21) (.reg [⟨(some 22), none, .mv (.tmp 0)⟩,
    ⟨(some 23), none, .mv (.tmp 1)⟩,
    ⟨(some 24), none, .call (.func 153) [(.tmp 22), (.tmp 23)]⟩]) .skip)))), 25, [], false⟩
theorem c145 : cmpF Tryz.prog [(3, [0, 1, 2, 3, 4, 5, 6, 7, 8, 9, 10, 11, 12], [0, 1, 2, 3, 4, 5, 6, 7, 8, 9, 10, 11, 12], [0, 1, 2, 3, 4, 5, 6, 7, 8, 9, 10, 11, 12])] k145.pure 145 = some k145 := by kernel_rfl
-- strings.Index
def k146 : KF := ⟨(.seq (.reg [⟨(some 4), none, .mv (.const (Value.int IntKind.i64 0))⟩])
  (.seq (.reg [⟨(some 5), none, .mv (.tmp 0)⟩,
    ⟨(some 6), none, .mv (.tmp 1)⟩,
    ⟨(some 7), none, .call (.func 154) [(.tmp 5), (.tmp 6)]⟩,
    ⟨(some 4), none, .mv (.tmp 7)⟩])
  .ret)), 8, [.tmp 4], false⟩
theorem c146 : cmpF Tryz.prog [] k146.pure 146 = some k146 := by kernel_rfl
-- (*strings.Builder).WriteString
def k147 : KF := ⟨(.seq (.reg [⟨(some 4), none, .mv (.const (Value.int IntKind.i64 0))⟩,
    ⟨(some 5), none, .mv (.const Value.nilIface)⟩])
  (.seq (.reg [⟨(some 6), none, .mv (.tmp 0)⟩,
    ⟨(some 7), none, .call (.func 152) [(.tmp 6)]⟩])
  (.seq (.reg [⟨(some 8), none, .mv (.tmp 0)⟩,
    ⟨(some 9), none, .mv (.tmp 0)⟩,
    ⟨(some 10), none, .nilck (.tmp 9)⟩,
    ⟨(some 11), none, .fld 1 (.tmp 10)⟩,
    ⟨(some 12), none, .load (.tmp 11)⟩,
    ⟨(some 13), none, .mv (.tmp 1)⟩,
    ⟨(some 14), none, .app 1 1 (.tmp 12) (.tmp 13)⟩,
    ⟨(some 15), none, .nilck (.tmp 8)⟩,
    ⟨(some 16), none, .fld 1 (.tmp 15)⟩,
    ⟨none, none, .store 1 (.tmp 16) (.tmp 14)⟩])
  (.seq (.reg [⟨(some 17), none, .mv (.tmp 1)⟩,
    ⟨(some 18), none, .lenS (.tmp 17)⟩,
    ⟨(some 4), none, .mv (.tmp 18)⟩,
    ⟨(some 5), none, .mv (.const Value.nilIface)⟩])
  .ret)))), 19, [.tmp 4, .tmp 5], false⟩
theorem c147 : cmpF Tryz.prog [] k147.pure 147 = some k147 := by kernel_rfl
-- unicode/utf8.DecodeRuneInString
def k148 : KF := ⟨(.seq (.reg [⟨(some 2), none, .mv (.const (Value.int IntKind.i32 0))⟩,
    ⟨(some 3), none, .mv (.const (Value.int IntKind.i64 0))⟩])
  (.seq (.seq (.reg [⟨(some 4), none, .mv (.tmp 0)⟩,
    ⟨(some 5), none, .bin .neq 9 (.tmp 4) (.const (Value.string { data := #[] })) 9 4⟩,
    ⟨(some 6), none, .mv (.tmp 5)⟩,
    ⟨(some 7), (some (6, true)), .mv (.tmp 0)⟩,
    ⟨(some 8), (some (6, true)), .idxS (.tmp 7) (.const (Value.int IntKind.i64 0))⟩,
    ⟨(some 9), (some (6, true)), .bin .lss 5 (.tmp 8) (.const (Value.int IntKind.u8 128)) 5 4⟩,
    ⟨(some 10), none, .pick (.tmp 6) (.tmp 9) (.const (Value.bool false))⟩])
  (.cond (.tmp 10) (.seq (.reg [⟨(some 11), none, .mv (.tmp 0)⟩,
    ⟨(some 12), none, .idxS (.tmp 11) (.const (Value.int IntKind.i64 0))⟩,
    ⟨(some 13), none, .conv .i32 (.tmp 12)⟩,
    ⟨(some 2), none, .mv (.tmp 13)⟩,
    ⟨(some 3), none, .mv (.const (Value.int IntKind.i64 1))⟩])
  .ret) (.reg [⟨(some 15), none, .mv (.tmp 0)⟩,
    ⟨(some 16), none, .call (.func 155) [(.tmp 15)]⟩,
    ⟨(some 14), none, .mv (.tmp 16)⟩,
    ⟨(some 17), none, .ext (.tmp 14) 0⟩,
    ⟨(some 18), none, .ext (.tmp 14) 1⟩,
    ⟨(some 2), none, .mv (.tmp 17)⟩,
    ⟨(some 3), none, .mv (.tmp 18)⟩])))
  .ret)), 19, [.tmp 2, .tmp 3], false⟩
theorem c148 : cmpF Tryz.prog [] k148.pure 148 = some k148 := by kernel_rfl
-- (*strings.Builder).String
def k149 : KF := ⟨(.seq (.reg [⟨(some 2), none, .mv (.const (Value.string { data := #[] }))⟩])
  (.seq (.drw [⟨(some 3), none, .mv (.tmp 0)⟩,
    ⟨(some 4), none, .nilck (.tmp 3)⟩,
    ⟨(some 5), none, .fld 1 (.tmp 4)⟩,
    ⟨(some 6), none, .load (.tmp 5)⟩,
    ⟨(some 7), none, .bad⟩,
    ⟨(some 8), none, .mv (.tmp 0)⟩,
    ⟨(some 9), none, .nilck (.tmp 8)⟩,
    ⟨(some 10), none, .fld 1 (.tmp 9)⟩,
    ⟨(some 11), none, .load (.tmp 10)⟩,
    ⟨(some 12), none, .len (.tmp 11)⟩,
    ⟨(some 13), none, .bad⟩,
    ⟨(some 2), none, .mv (.tmp 13)⟩] [[], [0], [1], [2], [3], [], [5], [6], [7], [8], [4, 9], [10, 0, 1, 2, 3, 4, 5, 6, 7, 8, 9, 10]] [0, 1, 2, 3, 4, 5, 6, 7, 8, 9, 10, 11])
  .ret)), 14, [.tmp 2], false⟩
theorem c149 : cmpF Tryz.prog [(1, [0, 1, 2, 3, 4, 5, 6, 7, 8, 9, 10, 11], [0, 1, 2, 3, 4, 5, 6, 7, 8, 9, 10, 11], [0, 1, 2, 3, 4, 5, 6, 7, 8, 9, 10, 11])] k149.pure 149 = some k149 := by kernel_rfl
-- unicode/utf8.RuneCountInString
def k150 : KF := ⟨(.seq (.reg [⟨(some 2), none, .mv (.const (Value.int IntKind.i64 0))⟩])
  (.seq (.seq (.reg [⟨(some 3), none, .mv (.tmp 0)⟩,
    ⟨(some 4), none, .bad⟩])
  (.blk 0 (.loop (.seq (.reg [⟨(some 5), none, .bad⟩,
    ⟨(some 6), none, .ext (.tmp 5) 0⟩])
  (.seq (.cond (.tmp 6) .skip (.exit 0))
  (.blk 1 (.reg [⟨(some 7), none, .mv (.tmp 2)⟩,
    ⟨(some 8), none, .bin .add 3 (.tmp 7) (.const (Value.int IntKind.i64 1)) 3 3⟩,
    ⟨(some 2), none, .mv (.tmp 8)⟩])))))))
  (.seq (.reg [⟨(some 9), none, .mv (.tmp 2)⟩,
    ⟨(some 2), none, .mv (.tmp 9)⟩])
  .ret))), 10, [.tmp 2], false⟩
theorem c150 : cmpF Tryz.prog [] k150.pure 150 = some k150 := by kernel_rfl
-- (*strings.Builder).copyCheck
def k152 : KF := ⟨(.seq (.reg [⟨(some 2), none, .mv (.tmp 0)⟩,
    ⟨(some 3), none, .nilck (.tmp 2)⟩,
    ⟨(some 4), none, .fld 0 (.tmp 3)⟩,
    ⟨(some 5), none, .load (.tmp 4)⟩,
    ⟨(some 6), none, .eqn false false (.tmp 5)⟩])
  (.cond (.tmp 6) (.reg [⟨(some 7), none, .mv (.tmp 0)⟩,
    ⟨(some 8), none, .mv (.tmp 0)⟩,
    ⟨(some 9), none, .gen (Op.convert 190 200 (Operand.tmp 8)) 200⟩,
    ⟨(some 10), none, .call (.func 156) [(.tmp 9)]⟩,
    ⟨(some 11), none, .gen (Op.convert 200 190 (Operand.tmp 10)) 190⟩,
    ⟨(some 12), none, .nilck (.tmp 7)⟩,
    ⟨(some 13), none, .fld 0 (.tmp 12)⟩,
    ⟨none, none, .store 1 (.tmp 13) (.tmp 11)⟩]) (.seq (.reg [⟨(some 14), none, .mv (.tmp 0)⟩,
    ⟨(some 15), none, .nilck (.tmp 14)⟩,
    ⟨(some 16), none, .fld 0 (.tmp 15)⟩,
    ⟨(some 17), none, .load (.tmp 16)⟩,
    ⟨(some 18), none, .mv (.tmp 0)⟩,
    ⟨(some 19), none, .gen (Op.binOp BinOp.neq 190 (Operand.tmp 17) (Operand.tmp 18) 190) 4⟩])
  (.cond (.tmp 19) .bad .skip)))), 20, [], false⟩
theorem c152 : cmpF Tryz.prog [] k152.pure 152 = some k152 := by kernel_rfl
-- (*strings.Builder).grow
def k153 : KF := ⟨(.seq (.drw [⟨(some 5), none, .mv (.tmp 0)⟩,
    ⟨(some 6), none, .nilck (.tmp 5)⟩,
    ⟨(some 7), none, .fld 1 (.tmp 6)⟩,
    ⟨(some 8), none, .load (.tmp 7)⟩,
    ⟨(some 9), none, .cap0 (.tmp 8)⟩,
    ⟨(some 10), none, .bin .mul 3 (.const (Value.int IntKind.i64 2)) (.tmp 9) 3 3⟩,
    ⟨(some 11), none, .mv (.tmp 1)⟩,
    ⟨(some 12), none, .bin .add 3 (.tmp 10) (.tmp 11) 3 3⟩,
    ⟨(some 13), none, .call (.func 157) [(.tmp 12)]⟩,
    ⟨(some 14), none, .mv (.tmp 0)⟩,
    ⟨(some 15), none, .nilck (.tmp 14)⟩,
    ⟨(some 16), none, .fld 1 (.tmp 15)⟩,
    ⟨(some 17), none, .load (.tmp 16)⟩,
    ⟨(some 18), none, .len (.tmp 17)⟩,
    ⟨(some 19), none, .cut 1 (.tmp 13) none (some (.tmp 18)) none⟩,
    ⟨(some 4), none, .mv (.tmp 19)⟩] [[], [0], [1], [2], [3], [4], [], [5, 6], [7], [], [9], [10], [11], [12], [8, 13], [14, 8, 0, 1, 2, 3, 4, 5, 6, 7, 8, 9, 10, 11, 12, 13, 14]] [0, 1, 2, 3, 4, 5, 6, 7, 9, 10, 11, 12, 13, 8, 14, 15])
  (.seq (.reg [⟨(some 20), none, .mv (.tmp 4)⟩,
    ⟨(some 21), none, .mv (.tmp 0)⟩,
    ⟨(some 22), none, .nilck (.tmp 21)⟩,
    ⟨(some 23), none, .fld 1 (.tmp 22)⟩,
    ⟨(some 24), none, .load (.tmp 23)⟩,
    ⟨(some 25), none, .bad⟩])
  (.reg [⟨(some 26), none, .mv (.tmp 0)⟩,
    ⟨(some 27), none, .mv (.tmp 4)⟩,
    ⟨(some 28), none, .nilck (.tmp 26)⟩,
    ⟨(some 29), none, .fld 1 (.tmp 28)⟩,
    ⟨none, none, .store 1 (.tmp 29) (.tmp 27)⟩]))), 30, [], false⟩
theorem c153 : cmpF Tryz.prog [(0, [0, 1, 2, 3, 4, 5, 6, 7, 8, 9, 10, 11, 12, 13, 14, 15], [0, 1, 2, 3, 4, 5, 6, 7, 8, 9, 10, 11, 12, 13, 14, 15], [0, 1, 2, 3, 4, 5, 6, 7, 9, 10, 11, 12, 13, 8, 14, 15])] k153.pure 153 = some k153 := by kernel_rfl
-- internal/stringslite.Index
def k154 : KF := ⟨(.seq (.reg [⟨(some 4), none, .mv (.const (Value.int IntKind.i64 0))⟩])
  (.seq (.reg [⟨(some 14), none, .mv (.tmp 1)⟩,
    ⟨(some 15), none, .lenS (.tmp 14)⟩,
    ⟨(some 5), none, .mv (.tmp 15)⟩])
  (.seq (.blk 0 (.seq (.reg [⟨(some 17), none, .mv (.tmp 5)⟩,
    ⟨(some 18), none, .bin .eql 3 (.tmp 17) (.const (Value.int IntKind.i64 0)) 3 4⟩,
    ⟨(some 19), none, .mv (.tmp 18)⟩,
    ⟨(some 20), (some (19, false)), .mv (.tmp 1)⟩,
    ⟨(some 21), (some (19, false)), .mv (.tmp 0)⟩,
    ⟨(some 22), (some (19, false)), .bin .eql 9 (.tmp 20) (.tmp 21) 9 4⟩,
    ⟨(some 23), none, .pick (.tmp 19) (.const (Value.bool true)) (.tmp 22)⟩,
    ⟨(some 16), none, .mv (.tmp 23)⟩])
  (.cond (.tmp 16) (.seq (.reg [⟨(some 4), none, .mv (.const (Value.int IntKind.i64 0))⟩])
  .ret) (.seq (.reg [⟨(some 25), none, .mv (.tmp 5)⟩,
    ⟨(some 26), none, .bin .eql 3 (.tmp 25) (.const (Value.int IntKind.i64 1)) 3 4⟩,
    ⟨(some 24), none, .mv (.tmp 26)⟩])
  (.cond (.tmp 24) (.seq (.reg [⟨(some 27), none, .mv (.tmp 0)⟩,
    ⟨(some 28), none, .mv (.tmp 1)⟩,
    ⟨(some 29), none, .idxS (.tmp 28) (.const (Value.int IntKind.i64 0))⟩,
    ⟨(some 30), none, .call (.func 158) [(.tmp 27), (.tmp 29)]⟩,
    ⟨(some 4), none, .mv (.tmp 30)⟩])
  .ret) (.seq (.reg [⟨(some 32), none, .mv (.tmp 5)⟩,
    ⟨(some 33), none, .mv (.tmp 0)⟩,
    ⟨(some 34), none, .lenS (.tmp 33)⟩,
    ⟨(some 35), none, .bin .geq 3 (.tmp 32) (.tmp 34) 3 4⟩,
    ⟨(some 31), none, .mv (.tmp 35)⟩])
  (.cond (.tmp 31) (.seq (.reg [⟨(some 4), none, .mv (.const (Value.int IntKind.i64 (-1)))⟩])
  .ret) (.seq (.reg [⟨(some 37), none, .mv (.tmp 5)⟩,
    ⟨(some 38), none, .load (.global 3)⟩,
    ⟨(some 39), none, .bin .leq 3 (.tmp 37) (.tmp 38) 3 4⟩,
    ⟨(some 40), none, .mv (.tmp 39)⟩,
    ⟨(some 41), (some (40, true)), .mv (.tmp 0)⟩,
    ⟨(some 42), (some (40, true)), .lenS (.tmp 41)⟩,
    ⟨(some 43), (some (40, true)), .bin .leq 3 (.tmp 42) (.const (Value.int IntKind.i64 64)) 3 4⟩,
    ⟨(some 44), none, .pick (.tmp 40) (.tmp 43) (.const (Value.bool false))⟩,
    ⟨(some 36), none, .mv (.tmp 44)⟩])
  (.cond (.tmp 36) (.seq (.reg [⟨(some 45), none, .mv (.tmp 0)⟩,
    ⟨(some 46), none, .mv (.tmp 1)⟩,
    ⟨(some 47), none, .call (.func 159) [(.tmp 45), (.tmp 46)]⟩,
    ⟨(some 4), none, .mv (.tmp 47)⟩])
  .ret) .skip)))))))))
  (.seq (.reg [⟨(some 48), none, .mv (.tmp 1)⟩,
    ⟨(some 49), none, .idxS (.tmp 48) (.const (Value.int IntKind.i64 0))⟩,
    ⟨(some 6), none, .mv (.tmp 49)⟩])
  (.seq (.reg [⟨(some 50), none, .mv (.tmp 1)⟩,
    ⟨(some 51), none, .idxS (.tmp 50) (.const (Value.int IntKind.i64 1))⟩,
    ⟨(some 7), none, .mv (.tmp 51)⟩])
  (.seq (.reg [⟨(some 8), none, .mv (.const (Value.int IntKind.i64 0))⟩])
  (.seq (.reg [⟨(some 52), none, .mv (.tmp 0)⟩,
    ⟨(some 53), none, .lenS (.tmp 52)⟩,
    ⟨(some 54), none, .mv (.tmp 5)⟩,
    ⟨(some 55), none, .bin .sub 3 (.tmp 53) (.tmp 54) 3 3⟩,
    ⟨(some 56), none, .bin .add 3 (.tmp 55) (.const (Value.int IntKind.i64 1)) 3 3⟩,
    ⟨(some 9), none, .mv (.tmp 56)⟩])
  (.seq (.reg [⟨(some 10), none, .mv (.const (Value.int IntKind.i64 0))⟩])
  (.seq (.blk 1 (.loop (.seq (.seq (.reg [⟨(some 57), none, .mv (.tmp 8)⟩,
    ⟨(some 58), none, .mv (.tmp 9)⟩,
    ⟨(some 59), none, .bin .lss 3 (.tmp 57) (.tmp 58) 3 4⟩])
  (.cond (.tmp 59) .skip (.exit 1)))
  (.blk 2 (.seq (.seq (.reg [⟨(some 60), none, .mv (.tmp 0)⟩,
    ⟨(some 61), none, .mv (.tmp 8)⟩,
    ⟨(some 62), none, .idxS (.tmp 60) (.tmp 61)⟩,
    ⟨(some 63), none, .mv (.tmp 6)⟩,
    ⟨(some 64), none, .bin .neq 5 (.tmp 62) (.tmp 63) 5 4⟩])
  (.cond (.tmp 64) (.seq (.reg [⟨(some 65), none, .mv (.tmp 0)⟩,
    ⟨(some 66), none, .mv (.tmp 8)⟩,
    ⟨(some 67), none, .bin .add 3 (.tmp 66) (.const (Value.int IntKind.i64 1)) 3 3⟩,
    ⟨(some 68), none, .mv (.tmp 9)⟩,
    ⟨(some 69), none, .gen (Op.slice 9 (Operand.tmp 65) (some (Operand.tmp 67)) (some (Operand.tmp 68)) none) 9⟩,
    ⟨(some 70), none, .mv (.tmp 6)⟩,
    ⟨(some 71), none, .call (.func 158) [(.tmp 69), (.tmp 70)]⟩,
    ⟨(some 11), none, .mv (.tmp 71)⟩])
  (.seq (.seq (.reg [⟨(some 72), none, .mv (.tmp 11)⟩,
    ⟨(some 73), none, .bin .lss 3 (.tmp 72) (.const (Value.int IntKind.i64 0)) 3 4⟩])
  (.cond (.tmp 73) (.seq (.reg [⟨(some 4), none, .mv (.const (Value.int IntKind.i64 (-1)))⟩])
  .ret) .skip))
  (.reg [⟨(some 74), none, .mv (.tmp 8)⟩,
    ⟨(some 75), none, .mv (.tmp 11)⟩,
    ⟨(some 76), none, .bin .add 3 (.tmp 75) (.const (Value.int IntKind.i64 1)) 3 3⟩,
    ⟨(some 77), none, .bin .add 3 (.tmp 74) (.tmp 76) 3 3⟩,
    ⟨(some 8), none, .mv (.tmp 77)⟩]))) .skip))
  (.seq (.seq (.reg [⟨(some 78), none, .mv (.tmp 0)⟩,
    ⟨(some 79), none, .mv (.tmp 8)⟩,
    ⟨(some 80), none, .bin .add 3 (.tmp 79) (.const (Value.int IntKind.i64 1)) 3 3⟩,
    ⟨(some 81), none, .idxS (.tmp 78) (.tmp 80)⟩,
    ⟨(some 82), none, .mv (.tmp 7)⟩,
    ⟨(some 83), none, .bin .eql 5 (.tmp 81) (.tmp 82) 5 4⟩,
    ⟨(some 84), none, .mv (.tmp 83)⟩,
    ⟨(some 85), (some (84, true)), .mv (.tmp 0)⟩,
    ⟨(some 86), (some (84, true)), .mv (.tmp 8)⟩,
    ⟨(some 87), (some (84, true)), .mv (.tmp 8)⟩,
    ⟨(some 88), (some (84, true)), .mv (.tmp 5)⟩,
    ⟨(some 89), (some (84, true)), .bin .add 3 (.tmp 87) (.tmp 88) 3 3⟩,
    ⟨(some 90), (some (84, true)), .gen (Op.slice 9 (Operand.tmp 85) (some (Operand.tmp 86)) (some (Operand.tmp 89)) none) 9⟩,
    ⟨(some 91), (some (84, true)), .mv (.tmp 1)⟩,
    ⟨(some 92), (some (84, true)), .bin .eql 9 (.tmp 90) (.tmp 91) 9 4⟩,
    ⟨(some 93), none, .pick (.tmp 84) (.tmp 92) (.const (Value.bool false))⟩])
  (.cond (.tmp 93) (.seq (.reg [⟨(some 94), none, .mv (.tmp 8)⟩,
    ⟨(some 4), none, .mv (.tmp 94)⟩])
  .ret) .skip))
  (.seq (.reg [⟨(some 95), none, .mv (.tmp 8)⟩,
    ⟨(some 96), none, .bin .add 3 (.tmp 95) (.const (Value.int IntKind.i64 1)) 3 3⟩,
    ⟨(some 8), none, .mv (.tmp 96)⟩])
  (.seq (.reg [⟨(some 97), none, .mv (.tmp 10)⟩,
    ⟨(some 98), none, .bin .add 3 (.tmp 97) (.const (Value.int IntKind.i64 1)) 3 3⟩,
    ⟨(some 10), none, .mv (.tmp 98)⟩])
  (.seq (.reg [⟨(some 99), none, .mv (.tmp 5)⟩,
    ⟨(some 100), none, .load (.global 3)⟩,
    ⟨(some 101), none, .bin .leq 3 (.tmp 99) (.tmp 100) 3 4⟩,
    ⟨(some 102), none, .mv (.tmp 101)⟩,
    ⟨(some 103), (some (102, true)), .mv (.tmp 10)⟩,
    ⟨(some 104), (some (102, true)), .mv (.tmp 8)⟩,
    ⟨(some 105), (some (102, true)), .call (.func 160) [(.tmp 104)]⟩,
    ⟨(some 106), (some (102, true)), .bin .gtr 3 (.tmp 103) (.tmp 105) 3 4⟩,
    ⟨(some 107), none, .pick (.tmp 102) (.tmp 106) (.const (Value.bool false))⟩])
  (.cond (.tmp 107) (.seq (.reg [⟨(some 108), none, .mv (.tmp 0)⟩,
    ⟨(some 109), none, .mv (.tmp 8)⟩,
    ⟨(some 110), none, .gen (Op.slice 9 (Operand.tmp 108) (some (Operand.tmp 109)) none none) 9⟩,
    ⟨(some 111), none, .mv (.tmp 1)⟩,
    ⟨(some 112), none, .call (.func 159) [(.tmp 110), (.tmp 111)]⟩,
    ⟨(some 12), none, .mv (.tmp 112)⟩])
  (.seq (.seq (.reg [⟨(some 113), none, .mv (.tmp 12)⟩,
    ⟨(some 114), none, .bin .geq 3 (.tmp 113) (.const (Value.int IntKind.i64 0)) 3 4⟩])
  (.cond (.tmp 114) (.seq (.reg [⟨(some 115), none, .mv (.tmp 12)⟩,
    ⟨(some 116), none, .mv (.tmp 8)⟩,
    ⟨(some 117), none, .bin .add 3 (.tmp 115) (.tmp 116) 3 3⟩,
    ⟨(some 4), none, .mv (.tmp 117)⟩])
  .ret) .skip))
  (.seq (.reg [⟨(some 4), none, .mv (.const (Value.int IntKind.i64 (-1)))⟩])
  .ret))) (.seq (.reg [⟨(some 118), none, .mv (.tmp 5)⟩,
    ⟨(some 119), none, .load (.global 3)⟩,
    ⟨(some 120), none, .bin .gtr 3 (.tmp 118) (.tmp 119) 3 4⟩,
    ⟨(some 121), none, .mv (.tmp 120)⟩,
    ⟨(some 122), (some (121, true)), .mv (.tmp 10)⟩,
    ⟨(some 123), (some (121, true)), .mv (.tmp 8)⟩,
    ⟨(some 124), (some (121, true)), .bin .shr 3 (.tmp 123) (.const (Value.int IntKind.u64 4)) 143 3⟩,
    ⟨(some 125), (some (121, true)), .bin .add 3 (.const (Value.int IntKind.i64 4)) (.tmp 124) 3 3⟩,
    ⟨(some 126), (some (121, true)), .bin .geq 3 (.tmp 122) (.tmp 125) 3 4⟩,
    ⟨(some 127), none, .pick (.tmp 121) (.tmp 126) (.const (Value.bool false))⟩,
    ⟨(some 128), none, .mv (.tmp 127)⟩,
    ⟨(some 129), (some (128, true)), .mv (.tmp 8)⟩,
    ⟨(some 130), (some (128, true)), .mv (.tmp 9)⟩,
    ⟨(some 131), (some (128, true)), .bin .lss 3 (.tmp 129) (.tmp 130) 3 4⟩,
    ⟨(some 132), none, .pick (.tmp 128) (.tmp 131) (.const (Value.bool false))⟩])
  (.cond (.tmp 132) (.seq (.reg [⟨(some 133), none, .mv (.tmp 0)⟩,
    ⟨(some 134), none, .mv (.tmp 8)⟩,
    ⟨(some 135), none, .gen (Op.slice 9 (Operand.tmp 133) (some (Operand.tmp 134)) none none) 9⟩,
    ⟨(some 136), none, .mv (.tmp 1)⟩,
    ⟨(some 137), none, .call (.func 161) [(.tmp 135), (.tmp 136)]⟩,
    ⟨(some 13), none, .mv (.tmp 137)⟩])
  (.seq (.seq (.reg [⟨(some 138), none, .mv (.tmp 13)⟩,
    ⟨(some 139), none, .bin .lss 3 (.tmp 138) (.const (Value.int IntKind.i64 0)) 3 4⟩])
  (.cond (.tmp 139) (.seq (.reg [⟨(some 4), none, .mv (.const (Value.int IntKind.i64 (-1)))⟩])
  .ret) .skip))
  (.seq (.reg [⟨(some 140), none, .mv (.tmp 8)⟩,
    ⟨(some 141), none, .mv (.tmp 13)⟩,
    ⟨(some 142), none, .bin .add 3 (.tmp 140) (.tmp 141) 3 3⟩,
    ⟨(some 4), none, .mv (.tmp 142)⟩])
  .ret))) .skip))))))))))))
  (.seq (.reg [⟨(some 4), none, .mv (.const (Value.int IntKind.i64 (-1)))⟩])
  .ret)))))))))), 143, [.tmp 4], false⟩
theorem c154 : cmpF Tryz.prog [] k154.pure 154 = some k154 := by kernel_rfl
-- unicode/utf8.decodeRuneInStringSlow
def k155 : KF := ⟨(.seq (.reg [⟨(some 2), none, .mv (.const (Value.int IntKind.i32 0))⟩,
    ⟨(some 3), none, .mv (.const (Value.int IntKind.i64 0))⟩])
  (.seq (.reg [⟨(some 13), none, .mv (.tmp 0)⟩,
    ⟨(some 14), none, .lenS (.tmp 13)⟩,
    ⟨(some 4), none, .mv (.tmp 14)⟩])
  (.seq (.seq (.reg [⟨(some 15), none, .mv (.tmp 4)⟩,
    ⟨(some 16), none, .bin .lss 3 (.tmp 15) (.const (Value.int IntKind.i64 1)) 3 4⟩])
  (.cond (.tmp 16) (.seq (.reg [⟨(some 2), none, .mv (.const (Value.int IntKind.i32 65533))⟩,
    ⟨(some 3), none, .mv (.const (Value.int IntKind.i64 0))⟩])
  .ret) .skip))
  (.seq (.reg [⟨(some 17), none, .mv (.tmp 0)⟩,
    ⟨(some 18), none, .idxS (.tmp 17) (.const (Value.int IntKind.i64 0))⟩,
    ⟨(some 5), none, .mv (.tmp 18)⟩])
  (.seq (.reg [⟨(some 19), none, .mv (.tmp 5)⟩,
    ⟨(some 20), none, .idx (some 256) 1 (.global 0) (.tmp 19)⟩,
    ⟨(some 21), none, .load (.tmp 20)⟩,
    ⟨(some 6), none, .mv (.tmp 21)⟩])
  (.seq (.seq (.reg [⟨(some 22), none, .mv (.tmp 6)⟩,
    ⟨(some 23), none, .bin .geq 5 (.tmp 22) (.const (Value.int IntKind.u8 240)) 5 4⟩])
  (.cond (.tmp 23) (.seq (.reg [⟨(some 24), none, .mv (.tmp 6)⟩,
    ⟨(some 25), none, .conv .i32 (.tmp 24)⟩,
    ⟨(some 26), none, .bin .shl 21 (.tmp 25) (.const (Value.int IntKind.u64 31)) 143 21⟩,
    ⟨(some 27), none, .bin .shr 21 (.tmp 26) (.const (Value.int IntKind.u64 31)) 143 21⟩,
    ⟨(some 7), none, .mv (.tmp 27)⟩])
  (.seq (.reg [⟨(some 28), none, .mv (.tmp 0)⟩,
    ⟨(some 29), none, .idxS (.tmp 28) (.const (Value.int IntKind.i64 0))⟩,
    ⟨(some 30), none, .conv .i32 (.tmp 29)⟩,
    ⟨(some 31), none, .mv (.tmp 7)⟩,
    ⟨(some 32), none, .bin .andNot 21 (.tmp 30) (.tmp 31) 21 21⟩,
    ⟨(some 33), none, .mv (.tmp 7)⟩,
    ⟨(some 34), none, .bin .and 21 (.const (Value.int IntKind.i32 65533)) (.tmp 33) 21 21⟩,
    ⟨(some 35), none, .bin .or 21 (.tmp 32) (.tmp 34) 21 21⟩,
    ⟨(some 2), none, .mv (.tmp 35)⟩,
    ⟨(some 3), none, .mv (.const (Value.int IntKind.i64 1))⟩])
  .ret)) .skip))
  (.seq (.reg [⟨(some 36), none, .mv (.tmp 6)⟩,
    ⟨(some 37), none, .bin .and 5 (.tmp 36) (.const (Value.int IntKind.u8 7)) 5 5⟩,
    ⟨(some 38), none, .conv .i64 (.tmp 37)⟩,
    ⟨(some 8), none, .mv (.tmp 38)⟩])
  (.seq (.reg [⟨(some 39), none, .mv (.tmp 6)⟩,
    ⟨(some 40), none, .bin .shr 5 (.tmp 39) (.const (Value.int IntKind.u64 4)) 143 5⟩,
    ⟨(some 41), none, .idx (some 16) 2 (.global 1) (.tmp 40)⟩,
    ⟨(some 42), none, .loadA 2 (.tmp 41)⟩,
    ⟨(some 9), none, .alloc [Value.int IntKind.u8 0, Value.int IntKind.u8 0]⟩,
    ⟨none, none, .store 2 (.tmp 9) (.tmp 42)⟩])
  (.seq (.seq (.reg [⟨(some 43), none, .mv (.tmp 4)⟩,
    ⟨(some 44), none, .mv (.tmp 8)⟩,
    ⟨(some 45), none, .bin .lss 3 (.tmp 43) (.tmp 44) 3 4⟩])
  (.cond (.tmp 45) (.seq (.reg [⟨(some 2), none, .mv (.const (Value.int IntKind.i32 65533))⟩,
    ⟨(some 3), none, .mv (.const (Value.int IntKind.i64 1))⟩])
  .ret) .skip))
  (.seq (.reg [⟨(some 46), none, .mv (.tmp 0)⟩,
    ⟨(some 47), none, .idxS (.tmp 46) (.const (Value.int IntKind.i64 1))⟩,
    ⟨(some 10), none, .mv (.tmp 47)⟩])
  (.seq (.seq (.reg [⟨(some 48), none, .mv (.tmp 10)⟩,
    ⟨(some 49), none, .fld 0 (.tmp 9)⟩,
    ⟨(some 50), none, .load (.tmp 49)⟩,
    ⟨(some 51), none, .bin .lss 5 (.tmp 48) (.tmp 50) 5 4⟩,
    ⟨(some 52), none, .mv (.tmp 51)⟩,
    ⟨(some 53), (some (52, false)), .fld 1 (.tmp 9)⟩,
    ⟨(some 54), (some (52, false)), .load (.tmp 53)⟩,
    ⟨(some 55), (some (52, false)), .mv (.tmp 10)⟩,
    ⟨(some 56), (some (52, false)), .bin .lss 5 (.tmp 54) (.tmp 55) 5 4⟩,
    ⟨(some 57), none, .pick (.tmp 52) (.const (Value.bool true)) (.tmp 56)⟩])
  (.cond (.tmp 57) (.seq (.reg [⟨(some 2), none, .mv (.const (Value.int IntKind.i32 65533))⟩,
    ⟨(some 3), none, .mv (.const (Value.int IntKind.i64 1))⟩])
  .ret) .skip))
  (.seq (.seq (.reg [⟨(some 58), none, .mv (.tmp 8)⟩,
    ⟨(some 59), none, .bin .leq 3 (.tmp 58) (.const (Value.int IntKind.i64 2)) 3 4⟩])
  (.cond (.tmp 59) (.seq (.reg [⟨(some 60), none, .mv (.tmp 5)⟩,
    ⟨(some 61), none, .bin .and 5 (.tmp 60) (.const (Value.int IntKind.u8 31)) 5 5⟩,
    ⟨(some 62), none, .conv .i32 (.tmp 61)⟩,
    ⟨(some 63), none, .bin .shl 21 (.tmp 62) (.const (Value.int IntKind.u64 6)) 143 21⟩,
    ⟨(some 64), none, .mv (.tmp 10)⟩,
    ⟨(some 65), none, .bin .and 5 (.tmp 64) (.const (Value.int IntKind.u8 63)) 5 5⟩,
    ⟨(some 66), none, .conv .i32 (.tmp 65)⟩,
    ⟨(some 67), none, .bin .or 21 (.tmp 63) (.tmp 66) 21 21⟩,
    ⟨(some 2), none, .mv (.tmp 67)⟩,
    ⟨(some 3), none, .mv (.const (Value.int IntKind.i64 2))⟩])
  .ret) .skip))
  (.seq (.reg [⟨(some 68), none, .mv (.tmp 0)⟩,
    ⟨(some 69), none, .idxS (.tmp 68) (.const (Value.int IntKind.i64 2))⟩,
    ⟨(some 11), none, .mv (.tmp 69)⟩])
  (.seq (.seq (.reg [⟨(some 70), none, .mv (.tmp 11)⟩,
    ⟨(some 71), none, .bin .lss 5 (.tmp 70) (.const (Value.int IntKind.u8 128)) 5 4⟩,
    ⟨(some 72), none, .mv (.tmp 71)⟩,
    ⟨(some 73), (some (72, false)), .mv (.tmp 11)⟩,
    ⟨(some 74), (some (72, false)), .bin .lss 5 (.const (Value.int IntKind.u8 191)) (.tmp 73) 5 4⟩,
    ⟨(some 75), none, .pick (.tmp 72) (.const (Value.bool true)) (.tmp 74)⟩])
  (.cond (.tmp 75) (.seq (.reg [⟨(some 2), none, .mv (.const (Value.int IntKind.i32 65533))⟩,
    ⟨(some 3), none, .mv (.const (Value.int IntKind.i64 1))⟩])
  .ret) .skip))
  (.seq (.seq (.reg [⟨(some 76), none, .mv (.tmp 8)⟩,
    ⟨(some 77), none, .bin .leq 3 (.tmp 76) (.const (Value.int IntKind.i64 3)) 3 4⟩])
  (.cond (.tmp 77) (.seq (.reg [⟨(some 78), none, .mv (.tmp 5)⟩,
    ⟨(some 79), none, .bin .and 5 (.tmp 78) (.const (Value.int IntKind.u8 15)) 5 5⟩,
    ⟨(some 80), none, .conv .i32 (.tmp 79)⟩,
    ⟨(some 81), none, .bin .shl 21 (.tmp 80) (.const (Value.int IntKind.u64 12)) 143 21⟩,
    ⟨(some 82), none, .mv (.tmp 10)⟩,
    ⟨(some 83), none, .bin .and 5 (.tmp 82) (.const (Value.int IntKind.u8 63)) 5 5⟩,
    ⟨(some 84), none, .conv .i32 (.tmp 83)⟩,
    ⟨(some 85), none, .bin .shl 21 (.tmp 84) (.const (Value.int IntKind.u64 6)) 143 21⟩,
    ⟨(some 86), none, .bin .or 21 (.tmp 81) (.tmp 85) 21 21⟩,
    ⟨(some 87), none, .mv (.tmp 11)⟩,
    ⟨(some 88), none, .bin .and 5 (.tmp 87) (.const (Value.int IntKind.u8 63)) 5 5⟩,
    ⟨(some 89), none, .conv .i32 (.tmp 88)⟩,
    ⟨(some 90), none, .bin .or 21 (.tmp 86) (.tmp 89) 21 21⟩,
    ⟨(some 2), none, .mv (.tmp 90)⟩,
    ⟨(some 3), none, .mv (.const (Value.int IntKind.i64 3))⟩])
  .ret) .skip))
  (.seq (.reg [⟨(some 91), none, .mv (.tmp 0)⟩,
    ⟨(some 92), none, .idxS (.tmp 91) (.const (Value.int IntKind.i64 3))⟩,
    ⟨(some 12), none, .mv (.tmp 92)⟩])
  (.seq (.seq (.reg [⟨(some 93), none, .mv (.tmp 12)⟩,
    ⟨(some 94), none, .bin .lss 5 (.tmp 93) (.const (Value.int IntKind.u8 128)) 5 4⟩,
    ⟨(some 95), none, .mv (.tmp 94)⟩,
    ⟨(some 96), (some (95, false)), .mv (.tmp 12)⟩,
    ⟨(some 97), (some (95, false)), .bin .lss 5 (.const (Value.int IntKind.u8 191)) (.tmp 96) 5 4⟩,
    ⟨(some 98), none, .pick (.tmp 95) (.const (Value.bool true)) (.tmp 97)⟩])
  (.cond (.tmp 98) (.seq (.reg [⟨(some 2), none, .mv (.const (Value.int IntKind.i32 65533))⟩,
    ⟨(some 3), none, .mv (.const (Value.int IntKind.i64 1))⟩])
  .ret) .skip))
  (.seq (.reg [⟨(some 99), none, .mv (.tmp 5)⟩,
    ⟨(some 100), none, .bin .and 5 (.tmp 99) (.const (Value.int IntKind.u8 7)) 5 5⟩,
    ⟨(some 101), none, .conv .i32 (.tmp 100)⟩,
    ⟨(some 102), none, .bin .shl 21 (.tmp 101) (.const (Value.int IntKind.u64 18)) 143 21⟩,
    ⟨(some 103), none, .mv (.tmp 10)⟩,
    ⟨(some 104), none, .bin .and 5 (.tmp 103) (.const (Value.int IntKind.u8 63)) 5 5⟩,
    ⟨(some 105), none, .conv .i32 (.tmp 104)⟩,
    ⟨(some 106), none, .bin .shl 21 (.tmp 105) (.const (Value.int IntKind.u64 12)) 143 21⟩,
    ⟨(some 107), none, .bin .or 21 (.tmp 102) (.tmp 106) 21 21⟩,
    ⟨(some 108), none, .mv (.tmp 11)⟩,
    ⟨(some 109), none, .bin .and 5 (.tmp 108) (.const (Value.int IntKind.u8 63)) 5 5⟩,
    ⟨(some 110), none, .conv .i32 (.tmp 109)⟩,
    ⟨(some 111), none, .bin .shl 21 (.tmp 110) (.const (Value.int IntKind.u64 6)) 143 21⟩,
    ⟨(some 112), none, .bin .or 21 (.tmp 107) (.tmp 111) 21 21⟩,
    ⟨(some 113), none, .mv (.tmp 12)⟩,
    ⟨(some 114), none, .bin .and 5 (.tmp 113) (.const (Value.int IntKind.u8 63)) 5 5⟩,
    ⟨(some 115), none, .conv .i32 (.tmp 114)⟩,
    ⟨(some 116), none, .bin .or 21 (.tmp 112) (.tmp 115) 21 21⟩,
    ⟨(some 2), none, .mv (.tmp 116)⟩,
    ⟨(some 3), none, .mv (.const (Value.int IntKind.i64 4))⟩])
  .ret)))))))))))))))))), 117, [.tmp 2, .tmp 3], false⟩
theorem c155 : cmpF Tryz.prog [] k155.pure 155 = some k155 := by kernel_rfl
-- internal/stringslite.IndexByte
def k158 : KF := ⟨(.seq (.reg [⟨(some 4), none, .mv (.const (Value.int IntKind.i64 0))⟩])
  (.seq (.reg [⟨(some 5), none, .mv (.tmp 0)⟩,
    ⟨(some 6), none, .mv (.tmp 1)⟩,
    ⟨(some 7), none, .call (.func 162) [(.tmp 5), (.tmp 6)]⟩,
    ⟨(some 4), none, .mv (.tmp 7)⟩])
  .ret)), 8, [.tmp 4], false⟩
theorem c158 : cmpF Tryz.prog [] k158.pure 158 = some k158 := by kernel_rfl
-- internal/bytealg.Cutover
def k160 : KF := ⟨(.seq (.reg [⟨(some 2), none, .mv (.const (Value.int IntKind.i64 0))⟩])
  (.seq (.reg [⟨(some 3), none, .mv (.tmp 0)⟩,
    ⟨(some 4), none, .bin .add 3 (.tmp 3) (.const (Value.int IntKind.i64 16)) 3 3⟩,
    ⟨(some 5), none, .bin .quo 3 (.tmp 4) (.const (Value.int IntKind.i64 8)) 3 3⟩,
    ⟨(some 2), none, .mv (.tmp 5)⟩])
  .ret)), 6, [.tmp 2], false⟩
theorem c160 : cmpF Tryz.prog [] k160.pure 160 = some k160 := by kernel_rfl
-- internal/bytealg.IndexRabinKarp[string]
def k161 : KF := ⟨(.seq (.reg [⟨(some 4), none, .mv (.const (Value.int IntKind.i64 0))⟩])
  (.seq (.reg [⟨(some 12), none, .mv (.tmp 1)⟩,
    ⟨(some 13), none, .call (.func 163) [(.tmp 12)]⟩,
    ⟨(some 11), none, .mv (.tmp 13)⟩,
    ⟨(some 14), none, .ext (.tmp 11) 0⟩,
    ⟨(some 15), none, .ext (.tmp 11) 1⟩,
    ⟨(some 5), none, .mv (.tmp 14)⟩,
    ⟨(some 6), none, .mv (.tmp 15)⟩])
  (.seq (.reg [⟨(some 16), none, .mv (.tmp 1)⟩,
    ⟨(some 17), none, .lenS (.tmp 16)⟩,
    ⟨(some 7), none, .mv (.tmp 17)⟩])
  (.seq (.reg [⟨(some 8), none, .mv (.const (Value.int IntKind.u32 0))⟩])
  (.seq (.seq (.reg [⟨(some 9), none, .mv (.const (Value.int IntKind.i64 0))⟩])
  (.blk 0 (.loop (.seq (.seq (.reg [⟨(some 18), none, .mv (.tmp 9)⟩,
    ⟨(some 19), none, .mv (.tmp 7)⟩,
    ⟨(some 20), none, .bin .lss 3 (.tmp 18) (.tmp 19) 3 4⟩])
  (.cond (.tmp 20) .skip (.exit 0)))
  (.seq (.blk 1 (.reg [⟨(some 23), none, .mv (.tmp 8)⟩,
    ⟨(some 24), none, .bin .mul 202 (.tmp 23) (.const (Value.int IntKind.u32 16777619)) 202 202⟩,
    ⟨(some 25), none, .mv (.tmp 0)⟩,
    ⟨(some 26), none, .mv (.tmp 9)⟩,
    ⟨(some 27), none, .idxS (.tmp 25) (.tmp 26)⟩,
    ⟨(some 28), none, .conv .u32 (.tmp 27)⟩,
    ⟨(some 29), none, .bin .add 202 (.tmp 24) (.tmp 28) 202 202⟩,
    ⟨(some 8), none, .mv (.tmp 29)⟩]))
  (.reg [⟨(some 21), none, .mv (.tmp 9)⟩,
    ⟨(some 22), none, .bin .add 3 (.tmp 21) (.const (Value.int IntKind.i64 1)) 3 3⟩,
    ⟨(some 9), none, .mv (.tmp 22)⟩]))))))
  (.seq (.seq (.reg [⟨(some 30), none, .mv (.tmp 8)⟩,
    ⟨(some 31), none, .mv (.tmp 5)⟩,
    ⟨(some 32), none, .bin .eql 202 (.tmp 30) (.tmp 31) 202 4⟩,
    ⟨(some 33), none, .mv (.tmp 32)⟩,
    ⟨(some 34), (some (33, true)), .mv (.tmp 0)⟩,
    ⟨(some 35), (some (33, true)), .mv (.tmp 7)⟩,
    ⟨(some 36), (some (33, true)), .gen (Op.slice 9 (Operand.tmp 34) none (some (Operand.tmp 35)) none) 9⟩,
    ⟨(some 37), (some (33, true)), .mv (.tmp 1)⟩,
    ⟨(some 38), (some (33, true)), .bin .eql 9 (.tmp 36) (.tmp 37) 9 4⟩,
    ⟨(some 39), none, .pick (.tmp 33) (.tmp 38) (.const (Value.bool false))⟩])
  (.cond (.tmp 39) (.seq (.reg [⟨(some 4), none, .mv (.const (Value.int IntKind.i64 0))⟩])
  .ret) .skip))
  (.seq (.seq (.reg [⟨(some 40), none, .mv (.tmp 7)⟩,
    ⟨(some 10), none, .mv (.tmp 40)⟩])
  (.blk 2 (.loop (.seq (.seq (.reg [⟨(some 41), none, .mv (.tmp 10)⟩,
    ⟨(some 42), none, .mv (.tmp 0)⟩,
    ⟨(some 43), none, .lenS (.tmp 42)⟩,
    ⟨(some 44), none, .bin .lss 3 (.tmp 41) (.tmp 43) 3 4⟩])
  (.cond (.tmp 44) .skip (.exit 2)))
  (.blk 3 (.seq (.reg [⟨(some 45), none, .mv (.tmp 8)⟩,
    ⟨(some 46), none, .bin .mul 202 (.tmp 45) (.const (Value.int IntKind.u32 16777619)) 202 202⟩,
    ⟨(some 8), none, .mv (.tmp 46)⟩])
  (.seq (.reg [⟨(some 47), none, .mv (.tmp 8)⟩,
    ⟨(some 48), none, .mv (.tmp 0)⟩,
    ⟨(some 49), none, .mv (.tmp 10)⟩,
    ⟨(some 50), none, .idxS (.tmp 48) (.tmp 49)⟩,
    ⟨(some 51), none, .conv .u32 (.tmp 50)⟩,
    ⟨(some 52), none, .bin .add 202 (.tmp 47) (.tmp 51) 202 202⟩,
    ⟨(some 8), none, .mv (.tmp 52)⟩])
  (.seq (.reg [⟨(some 53), none, .mv (.tmp 8)⟩,
    ⟨(some 54), none, .mv (.tmp 6)⟩,
    ⟨(some 55), none, .mv (.tmp 0)⟩,
    ⟨(some 56), none, .mv (.tmp 10)⟩,
    ⟨(some 57), none, .mv (.tmp 7)⟩,
    ⟨(some 58), none, .bin .sub 3 (.tmp 56) (.tmp 57) 3 3⟩,
    ⟨(some 59), none, .idxS (.tmp 55) (.tmp 58)⟩,
    ⟨(some 60), none, .conv .u32 (.tmp 59)⟩,
    ⟨(some 61), none, .bin .mul 202 (.tmp 54) (.tmp 60) 202 202⟩,
    ⟨(some 62), none, .bin .sub 202 (.tmp 53) (.tmp 61) 202 202⟩,
    ⟨(some 8), none, .mv (.tmp 62)⟩])
  (.seq (.reg [⟨(some 63), none, .mv (.tmp 10)⟩,
    ⟨(some 64), none, .bin .add 3 (.tmp 63) (.const (Value.int IntKind.i64 1)) 3 3⟩,
    ⟨(some 10), none, .mv (.tmp 64)⟩])
  (.seq (.reg [⟨(some 65), none, .mv (.tmp 8)⟩,
    ⟨(some 66), none, .mv (.tmp 5)⟩,
    ⟨(some 67), none, .bin .eql 202 (.tmp 65) (.tmp 66) 202 4⟩,
    ⟨(some 68), none, .mv (.tmp 67)⟩,
    ⟨(some 69), (some (68, true)), .mv (.tmp 0)⟩,
    ⟨(some 70), (some (68, true)), .mv (.tmp 10)⟩,
    ⟨(some 71), (some (68, true)), .mv (.tmp 7)⟩,
    ⟨(some 72), (some (68, true)), .bin .sub 3 (.tmp 70) (.tmp 71) 3 3⟩,
    ⟨(some 73), (some (68, true)), .mv (.tmp 10)⟩,
    ⟨(some 74), (some (68, true)), .gen (Op.slice 9 (Operand.tmp 69) (some (Operand.tmp 72)) (some (Operand.tmp 73)) none) 9⟩,
    ⟨(some 75), (some (68, true)), .mv (.tmp 1)⟩,
    ⟨(some 76), (some (68, true)), .bin .eql 9 (.tmp 74) (.tmp 75) 9 4⟩,
    ⟨(some 77), none, .pick (.tmp 68) (.tmp 76) (.const (Value.bool false))⟩])
  (.cond (.tmp 77) (.seq (.reg [⟨(some 78), none, .mv (.tmp 10)⟩,
    ⟨(some 79), none, .mv (.tmp 7)⟩,
    ⟨(some 80), none, .bin .sub 3 (.tmp 78) (.tmp 79) 3 3⟩,
    ⟨(some 4), none, .mv (.tmp 80)⟩])
  .ret) .skip)))))))))))
  (.seq (.reg [⟨(some 4), none, .mv (.const (Value.int IntKind.i64 (-1)))⟩])
  .ret)))))))), 81, [.tmp 4], false⟩
theorem c161 : cmpF Tryz.prog [] k161.pure 161 = some k161 := by kernel_rfl
-- internal/bytealg.hashStr[string]
def k163 : KF := ⟨(.seq (.reg [⟨(some 2), none, .mv (.const (Value.int IntKind.u32 0))⟩,
    ⟨(some 3), none, .mv (.const (Value.int IntKind.u32 0))⟩])
  (.seq (.reg [⟨(some 4), none, .mv (.const (Value.int IntKind.u32 0))⟩])
  (.seq (.seq (.reg [⟨(some 5), none, .mv (.const (Value.int IntKind.i64 0))⟩])
  (.blk 0 (.loop (.seq (.seq (.reg [⟨(some 9), none, .mv (.tmp 5)⟩,
    ⟨(some 10), none, .mv (.tmp 0)⟩,
    ⟨(some 11), none, .lenS (.tmp 10)⟩,
    ⟨(some 12), none, .bin .lss 3 (.tmp 9) (.tmp 11) 3 4⟩])
  (.cond (.tmp 12) .skip (.exit 0)))
  (.seq (.blk 1 (.reg [⟨(some 15), none, .mv (.tmp 4)⟩,
    ⟨(some 16), none, .bin .mul 202 (.tmp 15) (.const (Value.int IntKind.u32 16777619)) 202 202⟩,
    ⟨(some 17), none, .mv (.tmp 0)⟩,
    ⟨(some 18), none, .mv (.tmp 5)⟩,
    ⟨(some 19), none, .idxS (.tmp 17) (.tmp 18)⟩,
    ⟨(some 20), none, .conv .u32 (.tmp 19)⟩,
    ⟨(some 21), none, .bin .add 202 (.tmp 16) (.tmp 20) 202 202⟩,
    ⟨(some 4), none, .mv (.tmp 21)⟩]))
  (.reg [⟨(some 13), none, .mv (.tmp 5)⟩,
    ⟨(some 14), none, .bin .add 3 (.tmp 13) (.const (Value.int IntKind.i64 1)) 3 3⟩,
    ⟨(some 5), none, .mv (.tmp 14)⟩]))))))
  (.seq (.reg [⟨(some 6), none, .mv (.const (Value.int IntKind.u32 1))⟩,
    ⟨(some 7), none, .mv (.const (Value.int IntKind.u32 16777619))⟩])
  (.seq (.seq (.reg [⟨(some 22), none, .mv (.tmp 0)⟩,
    ⟨(some 23), none, .lenS (.tmp 22)⟩,
    ⟨(some 8), none, .mv (.tmp 23)⟩])
  (.blk 2 (.loop (.seq (.seq (.reg [⟨(some 24), none, .mv (.tmp 8)⟩,
    ⟨(some 25), none, .bin .gtr 3 (.tmp 24) (.const (Value.int IntKind.i64 0)) 3 4⟩])
  (.cond (.tmp 25) .skip (.exit 2)))
  (.seq (.blk 3 (.seq (.seq (.reg [⟨(some 28), none, .mv (.tmp 8)⟩,
    ⟨(some 29), none, .bin .and 3 (.tmp 28) (.const (Value.int IntKind.i64 1)) 3 3⟩,
    ⟨(some 30), none, .bin .neq 3 (.tmp 29) (.const (Value.int IntKind.i64 0)) 3 4⟩])
  (.cond (.tmp 30) (.reg [⟨(some 31), none, .mv (.tmp 6)⟩,
    ⟨(some 32), none, .mv (.tmp 7)⟩,
    ⟨(some 33), none, .bin .mul 202 (.tmp 31) (.tmp 32) 202 202⟩,
    ⟨(some 6), none, .mv (.tmp 33)⟩]) .skip))
  (.reg [⟨(some 34), none, .mv (.tmp 7)⟩,
    ⟨(some 35), none, .mv (.tmp 7)⟩,
    ⟨(some 36), none, .bin .mul 202 (.tmp 34) (.tmp 35) 202 202⟩,
    ⟨(some 7), none, .mv (.tmp 36)⟩])))
  (.reg [⟨(some 26), none, .mv (.tmp 8)⟩,
    ⟨(some 27), none, .bin .shr 3 (.tmp 26) (.const (Value.int IntKind.u64 1)) 143 3⟩,
    ⟨(some 8), none, .mv (.tmp 27)⟩]))))))
  (.seq (.reg [⟨(some 37), none, .mv (.tmp 4)⟩,
    ⟨(some 38), none, .mv (.tmp 6)⟩,
    ⟨(some 2), none, .mv (.tmp 37)⟩,
    ⟨(some 3), none, .mv (.tmp 38)⟩])
  .ret)))))), 39, [.tmp 2, .tmp 3], false⟩
theorem c163 : cmpF Tryz.prog [] k163.pure 163 = some k163 := by kernel_rfl
def T : List (Nat × KF) := [(8, k8), (10, k10), (11, k11), (12, k12), (13, k13), (14, k14), (15, k15), (17, k17), (18, k18), (26, k26), (27, k27), (28, k28), (29, k29), (30, k30), (33, k33), (34, k34), (35, k35), (36, k36), (37, k37), (38, k38), (39, k39), (40, k40), (41, k41), (42, k42), (43, k43), (44, k44), (45, k45), (46, k46), (47, k47), (48, k48), (49, k49), (65, k65), (66, k66), (67, k67), (70, k70), (71, k71), (72, k72), (73, k73), (75, k75), (76, k76), (77, k77), (78, k78), (79, k79), (80, k80), (81, k81), (82, k82), (90, k90), (91, k91), (92, k92), (94, k94), (98, k98), (32, k32), (101, k101), (102, k102), (103, k103), (104, k104), (105, k105), (112, k112), (113, k113), (69, k69), (114, k114), (115, k115), (68, k68), (118, k118), (120, k120), (121, k121), (122, k122), (123, k123), (95, k95), (96, k96), (124, k124), (125, k125), (126, k126), (127, k127), (128, k128), (129, k129), (130, k130), (131, k131), (116, k116), (117, k117), (132, k132), (133, k133), (134, k134), (135, k135), (136, k136), (137, k137), (138, k138), (139, k139), (140, k140), (141, k141), (144, k144), (145, k145), (146, k146), (147, k147), (148, k148), (149, k149), (150, k150), (152, k152), (153, k153), (154, k154), (155, k155), (158, k158), (160, k160), (161, k161), (163, k163)]
theorem T_ok : TOk Tryz.prog T :=
  .cons _ c8 <| .cons _ c10 <| .cons _ c11 <| .cons _ c12 <| .cons _ c13 <| .cons _ c14 <| .cons _ c15 <| .cons _ c17 <| .cons _ c18 <| .cons _ c26 <| .cons _ c27 <| .cons _ c28 <| .cons _ c29 <| .cons _ c30 <| .cons _ c33 <| .cons _ c34 <| .cons _ c35 <| .cons _ c36 <| .cons _ c37 <| .cons _ c38 <| .cons _ c39 <| .cons _ c40 <| .cons _ c41 <| .cons _ c42 <| .cons _ c43 <| .cons _ c44 <| .cons _ c45 <| .cons _ c46 <| .cons _ c47 <| .cons _ c48 <| .cons _ c49 <| .cons _ c65 <| .cons _ c66 <| .cons _ c67 <| .cons _ c70 <| .cons _ c71 <| .cons _ c72 <| .cons _ c73 <| .cons _ c75 <| .cons _ c76 <| .cons _ c77 <| .cons _ c78 <| .cons _ c79 <| .cons _ c80 <| .cons _ c81 <| .cons _ c82 <| .cons _ c90 <| .cons _ c91 <| .cons _ c92 <| .cons _ c94 <| .cons _ c98 <| .cons _ c32 <| .cons _ c101 <| .cons _ c102 <| .cons _ c103 <| .cons _ c104 <| .cons _ c105 <| .cons _ c112 <| .cons _ c113 <| .cons _ c69 <| .cons _ c114 <| .cons _ c115 <| .cons _ c68 <| .cons _ c118 <| .cons _ c120 <| .cons _ c121 <| .cons _ c122 <| .cons _ c123 <| .cons _ c95 <| .cons _ c96 <| .cons _ c124 <| .cons _ c125 <| .cons _ c126 <| .cons _ c127 <| .cons _ c128 <| .cons _ c129 <| .cons _ c130 <| .cons _ c131 <| .cons _ c116 <| .cons _ c117 <| .cons _ c132 <| .cons _ c133 <| .cons _ c134 <| .cons _ c135 <| .cons _ c136 <| .cons _ c137 <| .cons _ c138 <| .cons _ c139 <| .cons _ c140 <| .cons _ c141 <| .cons _ c144 <| .cons _ c145 <| .cons _ c146 <| .cons _ c147 <| .cons _ c148 <| .cons _ c149 <| .cons _ c150 <| .cons _ c152 <| .cons _ c153 <| .cons _ c154 <| .cons _ c155 <| .cons _ c158 <| .cons _ c160 <| .cons _ c161 <| .cons _ c163 <| .nil
def E : List (Nat × Nat × Nat × Nat × List Value) := [(100, 31, 1, 1, [Value.int IntKind.u8 0])]
theorem E_ok : cloneOk Tryz.prog E := ⟨⟨by kernel_rfl, rfl, by decide⟩, trivial⟩
theorem run_ok (gs : List (Nat × Obj)) (L n : Nat) : CallOk Tryz.prog gs (runF Tryz.prog T (cloneExt E) L n) := runF_ok T_ok (cloneExt_ok E E_ok) n
end Go.Proofs.YthknbhghkcdepaaGreatDoor.X
