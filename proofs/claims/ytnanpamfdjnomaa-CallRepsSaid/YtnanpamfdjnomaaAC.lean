/- The code of the seat's functions as it is reckoned with, and closed facts on types and functions. Written by alg.py out of the translation. -/
import Derived.Test.YtnanpamfdjnomaaProg
import Derived.Test.YtnanpamfdjnomaaALSet
import Derived.KernelRfl
namespace Go.Proofs.Ytnanpamfdjnomaa
open Go Go.RowKit Go.Proofs.Ytnanpamfdjnomaa.AL
set_option maxRecDepth 100000

theorem call_10 : callable Try.prog 10 = true := by kernel_rfl
theorem call_11 : callable Try.prog 11 = true := by kernel_rfl
theorem call_12 : callable Try.prog 12 = true := by kernel_rfl
theorem call_13 : callable Try.prog 13 = true := by kernel_rfl
theorem call_14 : callable Try.prog 14 = true := by kernel_rfl
theorem call_15 : callable Try.prog 15 = true := by kernel_rfl
theorem call_16 : callable Try.prog 16 = true := by kernel_rfl
theorem call_17 : callable Try.prog 17 = true := by kernel_rfl
theorem call_18 : callable Try.prog 18 = true := by kernel_rfl
theorem call_19 : callable Try.prog 19 = true := by kernel_rfl
theorem call_20 : callable Try.prog 20 = true := by kernel_rfl
theorem call_21 : callable Try.prog 21 = true := by kernel_rfl
theorem call_22 : callable Try.prog 22 = true := by kernel_rfl
theorem call_23 : callable Try.prog 23 = true := by kernel_rfl
theorem call_24 : callable Try.prog 24 = true := by kernel_rfl
theorem call_25 : callable Try.prog 25 = true := by kernel_rfl
theorem call_26 : callable Try.prog 26 = true := by kernel_rfl
theorem call_27 : callable Try.prog 27 = true := by kernel_rfl
theorem call_28 : callable Try.prog 28 = true := by kernel_rfl
theorem call_29 : callable Try.prog 29 = true := by kernel_rfl
theorem call_30 : callable Try.prog 30 = true := by kernel_rfl
theorem call_31 : callable Try.prog 31 = true := by kernel_rfl
theorem call_32 : callable Try.prog 32 = true := by kernel_rfl
theorem call_33 : callable Try.prog 33 = true := by kernel_rfl
theorem call_34 : callable Try.prog 34 = true := by kernel_rfl
theorem call_35 : callable Try.prog 35 = true := by kernel_rfl
theorem call_36 : callable Try.prog 36 = true := by kernel_rfl
theorem call_37 : callable Try.prog 37 = true := by kernel_rfl
theorem call_38 : callable Try.prog 38 = true := by kernel_rfl
theorem call_39 : callable Try.prog 39 = true := by kernel_rfl
theorem call_40 : callable Try.prog 40 = true := by kernel_rfl
theorem call_41 : callable Try.prog 41 = true := by kernel_rfl
theorem call_42 : callable Try.prog 42 = true := by kernel_rfl
theorem call_43 : callable Try.prog 43 = true := by kernel_rfl
theorem call_45 : callable Try.prog 45 = true := by kernel_rfl
theorem call_47 : callable Try.prog 47 = true := by kernel_rfl
theorem call_48 : callable Try.prog 48 = true := by kernel_rfl
theorem call_50 : callable Try.prog 50 = true := by kernel_rfl
theorem call_51 : callable Try.prog 51 = true := by kernel_rfl
theorem call_53 : callable Try.prog 53 = true := by kernel_rfl
theorem call_54 : callable Try.prog 54 = true := by kernel_rfl
theorem call_55 : callable Try.prog 55 = true := by kernel_rfl
theorem call_56 : callable Try.prog 56 = true := by kernel_rfl
theorem call_57 : callable Try.prog 57 = true := by kernel_rfl
theorem call_7 : callable Try.prog 7 = true := by kernel_rfl
theorem call_8 : callable Try.prog 8 = true := by kernel_rfl
theorem call_9 : callable Try.prog 9 = true := by kernel_rfl
theorem tBool_24 : tBool Try.prog 24 = false := by kernel_rfl
theorem tBool_3 : tBool Try.prog 3 = false := by kernel_rfl
theorem tBool_30 : tBool Try.prog 30 = false := by kernel_rfl
theorem tBool_4 : tBool Try.prog 4 = true := by kernel_rfl
theorem tBool_5 : tBool Try.prog 5 = false := by kernel_rfl
theorem tBool_9 : tBool Try.prog 9 = false := by kernel_rfl
theorem tFld_23_0 : tFld Try.prog 23 0 = some 0 := by kernel_rfl
theorem tFld_23_1 : tFld Try.prog 23 1 = some 1 := by kernel_rfl
theorem tFld_23_2 : tFld Try.prog 23 2 = some 2 := by kernel_rfl
theorem tFld_23_3 : tFld Try.prog 23 3 = some 3 := by kernel_rfl
theorem tFld_23_4 : tFld Try.prog 23 4 = some 4 := by kernel_rfl
theorem tFld_23_5 : tFld Try.prog 23 5 = some 5 := by kernel_rfl
theorem tFld_27_0 : tFld Try.prog 27 0 = some 0 := by kernel_rfl
theorem tFld_27_1 : tFld Try.prog 27 1 = some 1 := by kernel_rfl
theorem tFld_27_2 : tFld Try.prog 27 2 = some 2 := by kernel_rfl
theorem tFld_27_3 : tFld Try.prog 27 3 = some 3 := by kernel_rfl
theorem tFld_27_4 : tFld Try.prog 27 4 = some 4 := by kernel_rfl
theorem tFld_47_0 : tFld Try.prog 47 0 = some 0 := by kernel_rfl
theorem tFld_47_1 : tFld Try.prog 47 1 = some 1 := by kernel_rfl
theorem tFld_47_2 : tFld Try.prog 47 2 = some 2 := by kernel_rfl
theorem tFld_47_3 : tFld Try.prog 47 3 = some 3 := by kernel_rfl
theorem tFld_49_0 : tFld Try.prog 49 0 = some 0 := by kernel_rfl
theorem tFld_49_1 : tFld Try.prog 49 1 = some 1 := by kernel_rfl
theorem tFld_49_2 : tFld Try.prog 49 2 = some 2 := by kernel_rfl
theorem tFld_49_3 : tFld Try.prog 49 3 = some 3 := by kernel_rfl
theorem tFld_52_0 : tFld Try.prog 52 0 = some 0 := by kernel_rfl
theorem tFld_52_1 : tFld Try.prog 52 1 = some 1 := by kernel_rfl
theorem tFld_52_2 : tFld Try.prog 52 2 = some 2 := by kernel_rfl
theorem tFld_71_0 : tFld Try.prog 71 0 = some 0 := by kernel_rfl
theorem tFld_71_1 : tFld Try.prog 71 1 = some 1 := by kernel_rfl
theorem tInt_3 : tInt Try.prog 3 = some .i64 := by kernel_rfl
theorem tInt_30 : tInt Try.prog 30 = some .i64 := by kernel_rfl
theorem tInt_5 : tInt Try.prog 5 = some .u8 := by kernel_rfl
theorem tInt_86 : tInt Try.prog 86 = some .u64 := by kernel_rfl
theorem tInt_87 : tInt Try.prog 87 = some .u64 := by kernel_rfl
theorem tInt_9 : tInt Try.prog 9 = none := by kernel_rfl
theorem tPlaces_27 : tPlaces Try.prog 27 = some ([(0, 1), (1, 1), (2, 1), (3, 1), (4, 1)], [.int .i64 0, .int .i64 0, .int .i64 0, .int .i64 0, .slice none 0 0]) := by kernel_rfl
theorem tPlaces_47 : tPlaces Try.prog 47 = some ([(0, 1), (1, 1), (2, 1), (3, 1)], [.int .i64 0, .int .i64 0, .slice none 0 0, .slice none 0 0]) := by kernel_rfl
theorem tPlaces_49 : tPlaces Try.prog 49 = some ([(0, 1), (1, 1), (2, 1), (3, 1)], [.int .i64 0, .int .i64 0, .int .i64 0, .slice none 0 0]) := by kernel_rfl
theorem tPlaces_52 : tPlaces Try.prog 52 = some ([(0, 1), (1, 1), (2, 1)], [.int .i64 0, .int .i64 0, .slice none 0 0]) := by kernel_rfl
theorem tPlaces_71 : tPlaces Try.prog 71 = some ([(0, 1), (1, 1)], [.slice none 0 0, .bool false]) := by kernel_rfl
theorem tPtr_24 : tPtr Try.prog 24 = false := by kernel_rfl
theorem tPtr_3 : tPtr Try.prog 3 = false := by kernel_rfl
theorem tPtr_30 : tPtr Try.prog 30 = false := by kernel_rfl
theorem tPtr_4 : tPtr Try.prog 4 = false := by kernel_rfl
theorem tPtr_5 : tPtr Try.prog 5 = false := by kernel_rfl
theorem tPtr_9 : tPtr Try.prog 9 = false := by kernel_rfl
theorem tSA_23 : tSA Try.prog 23 = some (6, true) := by kernel_rfl
theorem tSA_24 : tSA Try.prog 24 = some (1, false) := by kernel_rfl
theorem tSA_27 : tSA Try.prog 27 = some (5, true) := by kernel_rfl
theorem tSA_3 : tSA Try.prog 3 = some (1, false) := by kernel_rfl
theorem tSA_30 : tSA Try.prog 30 = some (1, false) := by kernel_rfl
theorem tSA_4 : tSA Try.prog 4 = some (1, false) := by kernel_rfl
theorem tSA_44 : tSA Try.prog 44 = some (1, false) := by kernel_rfl
theorem tSA_45 : tSA Try.prog 45 = some (1, false) := by kernel_rfl
theorem tSA_47 : tSA Try.prog 47 = some (4, true) := by kernel_rfl
theorem tSA_49 : tSA Try.prog 49 = some (4, true) := by kernel_rfl
theorem tSA_5 : tSA Try.prog 5 = some (1, false) := by kernel_rfl
theorem tSA_52 : tSA Try.prog 52 = some (3, true) := by kernel_rfl
theorem tSl_24 : tSl Try.prog 24 = some (5, 1, 1) := by kernel_rfl
theorem tSl_25 : tSl Try.prog 25 = some (3, 1, 8) := by kernel_rfl
theorem tSl_3 : tSl Try.prog 3 = none := by kernel_rfl
theorem tSl_30 : tSl Try.prog 30 = none := by kernel_rfl
theorem tSl_4 : tSl Try.prog 4 = none := by kernel_rfl
theorem tSl_44 : tSl Try.prog 44 = some (49, 4, 48) := by kernel_rfl
theorem tSl_45 : tSl Try.prog 45 = some (52, 3, 40) := by kernel_rfl
theorem tSl_5 : tSl Try.prog 5 = none := by kernel_rfl
theorem tSl_59 : tSl Try.prog 59 = some (23, 6, 48) := by kernel_rfl
theorem tSl_86 : tSl Try.prog 86 = none := by kernel_rfl
theorem tSl_88 : tSl Try.prog 88 = some (24, 1, 24) := by kernel_rfl
theorem tSl_9 : tSl Try.prog 9 = none := by kernel_rfl
theorem tStr_24 : tStr Try.prog 24 = false := by kernel_rfl
theorem tStr_25 : tStr Try.prog 25 = false := by kernel_rfl
theorem tStr_3 : tStr Try.prog 3 = false := by kernel_rfl
theorem tStr_30 : tStr Try.prog 30 = false := by kernel_rfl
theorem tStr_44 : tStr Try.prog 44 = false := by kernel_rfl
theorem tStr_45 : tStr Try.prog 45 = false := by kernel_rfl
theorem tStr_5 : tStr Try.prog 5 = false := by kernel_rfl
theorem tStr_59 : tStr Try.prog 59 = false := by kernel_rfl
theorem tStr_86 : tStr Try.prog 86 = false := by kernel_rfl
theorem tStr_87 : tStr Try.prog 87 = false := by kernel_rfl
theorem tStr_88 : tStr Try.prog 88 = false := by kernel_rfl
theorem tStr_9 : tStr Try.prog 9 = true := by kernel_rfl
theorem tZero_27 : tZero Try.prog 27 = some [.int .i64 0, .int .i64 0, .int .i64 0, .int .i64 0, .slice none 0 0] := by kernel_rfl
theorem tZero_47 : tZero Try.prog 47 = some [.int .i64 0, .int .i64 0, .slice none 0 0, .slice none 0 0] := by kernel_rfl
theorem tZero_49 : tZero Try.prog 49 = some [.int .i64 0, .int .i64 0, .int .i64 0, .slice none 0 0] := by kernel_rfl
theorem tZero_5 : tZero Try.prog 5 = some [.int .u8 0] := by kernel_rfl
theorem tZero_52 : tZero Try.prog 52 = some [.int .i64 0, .int .i64 0, .slice none 0 0] := by kernel_rfl
theorem und_24 : Try.prog.underlying 24 = some (.slice 5) := by kernel_rfl
theorem und_25 : Try.prog.underlying 25 = some (.slice 3) := by kernel_rfl
theorem und_3 : Try.prog.underlying 3 = some (.int .i64) := by kernel_rfl
theorem und_44 : Try.prog.underlying 44 = some (.slice 49) := by kernel_rfl
theorem und_45 : Try.prog.underlying 45 = some (.slice 52) := by kernel_rfl
theorem und_5 : Try.prog.underlying 5 = some (.int .u8) := by kernel_rfl
theorem und_59 : Try.prog.underlying 59 = some (.slice 23) := by kernel_rfl
theorem und_86 : Try.prog.underlying 86 = some (.int .u64) := by kernel_rfl
theorem und_88 : Try.prog.underlying 88 = some (.slice 24) := by kernel_rfl
attribute [go_sem] call_10 call_11 call_12 call_13 call_14 call_15 call_16 call_17 call_18 call_19 call_20 call_21
attribute [go_sem] call_22 call_23 call_24 call_25 call_26 call_27 call_28 call_29 call_30 call_31 call_32 call_33
attribute [go_sem] call_34 call_35 call_36 call_37 call_38 call_39 call_40 call_41 call_42 call_43 call_45 call_47
attribute [go_sem] call_48 call_50 call_51 call_53 call_54 call_55 call_56 call_57 call_7 call_8 call_9 tBool_24
attribute [go_sem] tBool_3 tBool_30 tBool_4 tBool_5 tBool_9 tFld_23_0 tFld_23_1 tFld_23_2 tFld_23_3 tFld_23_4 tFld_23_5 tFld_27_0
attribute [go_sem] tFld_27_1 tFld_27_2 tFld_27_3 tFld_27_4 tFld_47_0 tFld_47_1 tFld_47_2 tFld_47_3 tFld_49_0 tFld_49_1 tFld_49_2 tFld_49_3
attribute [go_sem] tFld_52_0 tFld_52_1 tFld_52_2 tFld_71_0 tFld_71_1 tInt_3 tInt_30 tInt_5 tInt_86 tInt_87 tInt_9 tPlaces_27
attribute [go_sem] tPlaces_47 tPlaces_49 tPlaces_52 tPlaces_71 tPtr_24 tPtr_3 tPtr_30 tPtr_4 tPtr_5 tPtr_9 tSA_23 tSA_24
attribute [go_sem] tSA_27 tSA_3 tSA_30 tSA_4 tSA_44 tSA_45 tSA_47 tSA_49 tSA_5 tSA_52 tSl_24 tSl_25
attribute [go_sem] tSl_3 tSl_30 tSl_4 tSl_44 tSl_45 tSl_5 tSl_59 tSl_86 tSl_88 tSl_9 tStr_24 tStr_25
attribute [go_sem] tStr_3 tStr_30 tStr_44 tStr_45 tStr_5 tStr_59 tStr_86 tStr_87 tStr_88 tStr_9 tZero_27 tZero_47
attribute [go_sem] tZero_49 tZero_5 tZero_52 und_24 und_25 und_3 und_44 und_45 und_5 und_59 und_86 und_88

def c3_r0 : List GOp := [⟨none, (some 5), (.box 23 (.tmp 0))⟩,
  ⟨none, (some 10), (.assign (.const (.bool false)))⟩]
def c3_r1 : List GOp := [⟨none, (some 22), (.load 23 (.tmp 5))⟩,
  ⟨none, (some 23), (.call { callee := (.value (.func 7)), args := #[(.tmp 22)], argTypes := #[23] })⟩,
  ⟨none, (some 11), (.alloc 27)⟩,
  ⟨none, none, (.store 27 (.tmp 11) (.tmp 23))⟩]
def c3_r2 : List GOp := [⟨none, (some 24), (.load 27 (.tmp 11))⟩,
  ⟨none, (some 25), (.call { callee := (.value (.func 8)), args := #[(.tmp 24)], argTypes := #[27] })⟩,
  ⟨none, (some 12), (.assign (.tmp 25))⟩]
def c3_r3 : List GOp := [⟨none, (some 27), (.load 27 (.tmp 11))⟩,
  ⟨none, (some 28), (.call { callee := (.value (.func 9)), args := #[(.tmp 27)], argTypes := #[27] })⟩,
  ⟨none, (some 26), (.move (.tmp 28))⟩,
  ⟨none, (some 29), (.extract (.tmp 26) 0)⟩,
  ⟨none, (some 30), (.extract (.tmp 26) 1)⟩,
  ⟨none, (some 13), (.assign (.tmp 29))⟩,
  ⟨none, (some 14), (.assign (.tmp 30))⟩]
def c3_r4 : List GOp := [⟨none, (some 15), (.assign (.const (.slice none 0 0)))⟩]
def c3_r5 : List GOp := [⟨none, (some 31), (.move (.tmp 12))⟩]
def c3_r6 : List GOp := [⟨none, (some 32), (.load 27 (.tmp 11))⟩,
  ⟨none, (some 33), (.call { callee := (.value (.func 10)), args := #[(.tmp 32)], argTypes := #[27] })⟩,
  ⟨none, (some 15), (.assign (.tmp 33))⟩]
def c3_r7 : List GOp := [⟨none, (some 34), (.move (.tmp 13))⟩,
  ⟨none, (some 35), (.convert 24 9 (.tmp 34))⟩,
  ⟨none, (some 36), (.move (.tmp 15))⟩,
  ⟨none, (some 37), (.convert 24 9 (.tmp 36))⟩,
  ⟨none, (some 38), (.binOp .neq 9 (.tmp 35) (.tmp 37) 9)⟩,
  ⟨none, (some 39), (.move (.tmp 38))⟩,
  ⟨(some (39, false)), (some 40), (.move (.tmp 14))⟩,
  ⟨(some (39, false)), (some 41), (.binOp .eql 30 (.tmp 40) (.const (.int .i64 0)) 30)⟩,
  ⟨(some (39, false)), (some 42), (.move (.tmp 12))⟩,
  ⟨(some (39, false)), (some 43), (.binOp .neq 4 (.tmp 41) (.tmp 42) 4)⟩,
  ⟨none, (some 44), (.pick (.tmp 39) (.const (.bool true)) (.tmp 43))⟩,
  ⟨none, (some 45), (.move (.tmp 44))⟩,
  ⟨(some (45, false)), (some 46), (.move (.tmp 12))⟩,
  ⟨(some (45, false)), (some 47), (.unOp .not 4 (.tmp 46))⟩,
  ⟨(some (45, false)), (some 48), (.move (.tmp 47))⟩,
  ⟨(some (48, true)), (some 49), (.move (.tmp 14))⟩,
  ⟨(some (48, true)), (some 50), (.binOp .neq 30 (.tmp 49) (.const (.int .i64 1)) 30)⟩,
  ⟨(some (45, false)), (some 51), (.pick (.tmp 48) (.tmp 50) (.const (.bool false)))⟩,
  ⟨none, (some 52), (.pick (.tmp 45) (.const (.bool true)) (.tmp 51))⟩]
def c3_r8 : List GOp := [⟨none, (some 10), (.assign (.const (.bool false)))⟩]
def c3_r9 : List GOp := [⟨none, (some 53), (.move (.tmp 1))⟩,
  ⟨none, (some 54), (.move (.tmp 1))⟩,
  ⟨none, (some 55), (.call { callee := (.builtin .len), args := #[(.tmp 54)], argTypes := #[24] })⟩,
  ⟨none, (some 56), (.call { callee := (.value (.func 11)), args := #[(.tmp 53), (.tmp 55)], argTypes := #[24, 3] })⟩,
  ⟨none, (some 16), (.assign (.tmp 56))⟩]
def c3_r10 : List GOp := [⟨none, (some 57), (.move (.tmp 12))⟩,
  ⟨none, (some 58), (.move (.tmp 57))⟩,
  ⟨(some (58, true)), (some 59), (.move (.tmp 2))⟩,
  ⟨(some (58, true)), (some 60), (.binOp .rem 3 (.tmp 59) (.const (.int .i64 4)) 3)⟩,
  ⟨(some (58, true)), (some 61), (.binOp .gtr 3 (.tmp 60) (.const (.int .i64 0)) 3)⟩,
  ⟨none, (some 62), (.pick (.tmp 58) (.tmp 61) (.const (.bool false)))⟩]
def c3_r11 : List GOp := [⟨none, (some 63), (.move (.tmp 15))⟩,
  ⟨none, (some 64), (.move (.tmp 15))⟩,
  ⟨none, (some 65), (.call { callee := (.builtin .len), args := #[(.tmp 64)], argTypes := #[24] })⟩,
  ⟨none, (some 66), (.call { callee := (.value (.func 11)), args := #[(.tmp 63), (.tmp 65)], argTypes := #[24, 3] })⟩,
  ⟨none, (some 16), (.assign (.tmp 66))⟩]
def c3_r12 : List GOp := [⟨none, (some 17), (.assign (.const (.int .i64 0)))⟩]
def c3_r13 : List GOp := [⟨none, (some 67), (.move (.tmp 17))⟩,
  ⟨none, (some 68), (.move (.tmp 3))⟩,
  ⟨none, (some 69), (.call { callee := (.builtin .len), args := #[(.tmp 68)], argTypes := #[25] })⟩,
  ⟨none, (some 70), (.binOp .lss 3 (.tmp 67) (.tmp 69) 3)⟩,
  ⟨none, (some 71), (.move (.tmp 70))⟩,
  ⟨(some (71, true)), (some 72), (.move (.tmp 17))⟩,
  ⟨(some (71, true)), (some 73), (.binOp .lss 3 (.tmp 72) (.const (.int .i64 2)) 3)⟩,
  ⟨none, (some 74), (.pick (.tmp 71) (.tmp 73) (.const (.bool false)))⟩]
def c3_r15 : List GOp := [⟨none, (some 77), (.move (.tmp 16))⟩,
  ⟨none, (some 78), (.move (.tmp 3))⟩,
  ⟨none, (some 79), (.move (.tmp 17))⟩,
  ⟨none, (some 80), (.indexAddr 25 (.tmp 78) (.tmp 79))⟩,
  ⟨none, (some 81), (.load 3 (.tmp 80))⟩,
  ⟨none, (some 82), (.move (.tmp 16))⟩,
  ⟨none, (some 83), (.call { callee := (.builtin .len), args := #[(.tmp 82)], argTypes := #[24] })⟩,
  ⟨none, (some 84), (.call { callee := (.value (.func 12)), args := #[(.tmp 81), (.tmp 83)], argTypes := #[3, 3] })⟩,
  ⟨none, (some 85), (.indexAddr 24 (.tmp 77) (.tmp 84))⟩,
  ⟨none, (some 86), (.load 5 (.tmp 85))⟩,
  ⟨none, (some 87), (.move (.tmp 4))⟩,
  ⟨none, (some 88), (.binOp .xor 5 (.tmp 86) (.tmp 87) 5)⟩,
  ⟨none, (some 89), (.indexAddr 24 (.tmp 77) (.tmp 84))⟩,
  ⟨none, none, (.store 5 (.tmp 89) (.tmp 88))⟩]
def c3_r14 : List GOp := [⟨none, (some 75), (.move (.tmp 17))⟩,
  ⟨none, (some 76), (.binOp .add 3 (.tmp 75) (.const (.int .i64 1)) 3)⟩,
  ⟨none, (some 17), (.assign (.tmp 76))⟩]
def c3_l0 : AC := (.seq (.seq (.reg c3_r13) (.cond (.tmp 74) .skip (.exit 0))) (.seq (.block 1 (.reg c3_r15)) (.reg c3_r14)))
def c3_r16 : List GOp := [⟨none, (some 91), (.move (.tmp 16))⟩,
  ⟨none, (some 92), (.call { callee := (.value (.func 13)), args := #[(.tmp 91)], argTypes := #[24] })⟩,
  ⟨none, (some 90), (.move (.tmp 92))⟩,
  ⟨none, (some 93), (.extract (.tmp 90) 0)⟩,
  ⟨none, (some 94), (.extract (.tmp 90) 1)⟩,
  ⟨none, (some 18), (.alloc 27)⟩,
  ⟨none, none, (.store 27 (.tmp 18) (.tmp 93))⟩,
  ⟨none, (some 19), (.assign (.tmp 94))⟩]
def c3_r17 : List GOp := [⟨none, (some 96), (.move (.tmp 16))⟩,
  ⟨none, (some 97), (.call { callee := (.value (.func 14)), args := #[(.tmp 96)], argTypes := #[24] })⟩,
  ⟨none, (some 95), (.move (.tmp 97))⟩,
  ⟨none, (some 98), (.extract (.tmp 95) 0)⟩,
  ⟨none, (some 99), (.extract (.tmp 95) 1)⟩,
  ⟨none, (some 20), (.alloc 27)⟩,
  ⟨none, none, (.store 27 (.tmp 20) (.tmp 98))⟩,
  ⟨none, (some 21), (.assign (.tmp 99))⟩]
def c3_r18 : List GOp := [⟨none, (some 100), (.call { callee := (.value (.func 15)), args := #[], argTypes := #[] })⟩,
  ⟨none, (some 101), (.move (.tmp 100))⟩,
  ⟨(some (101, true)), (some 102), (.load 27 (.tmp 18))⟩,
  ⟨(some (101, true)), (some 103), (.load 27 (.tmp 20))⟩,
  ⟨(some (101, true)), (some 104), (.call { callee := (.value (.func 16)), args := #[(.tmp 102), (.tmp 103)], argTypes := #[27, 27] })⟩,
  ⟨none, (some 105), (.pick (.tmp 101) (.tmp 104) (.const (.bool false)))⟩,
  ⟨none, (some 106), (.move (.tmp 105))⟩,
  ⟨(some (106, true)), (some 107), (.move (.tmp 19))⟩,
  ⟨(some (106, true)), (some 108), (.binOp .eql 30 (.tmp 107) (.const (.int .i64 0)) 30)⟩,
  ⟨(some (106, true)), (some 109), (.move (.tmp 21))⟩,
  ⟨(some (106, true)), (some 110), (.binOp .eql 4 (.tmp 108) (.tmp 109) 4)⟩,
  ⟨none, (some 111), (.pick (.tmp 106) (.tmp 110) (.const (.bool false)))⟩,
  ⟨none, (some 112), (.move (.tmp 111))⟩,
  ⟨(some (112, true)), (some 113), (.move (.tmp 21))⟩,
  ⟨(some (112, true)), (some 114), (.move (.tmp 113))⟩,
  ⟨(some (114, false)), (some 115), (.move (.tmp 19))⟩,
  ⟨(some (114, false)), (some 116), (.binOp .eql 30 (.tmp 115) (.const (.int .i64 2)) 30)⟩,
  ⟨(some (112, true)), (some 117), (.pick (.tmp 114) (.const (.bool true)) (.tmp 116))⟩,
  ⟨none, (some 118), (.pick (.tmp 112) (.tmp 117) (.const (.bool false)))⟩,
  ⟨none, (some 10), (.assign (.tmp 118))⟩]
/-- corbel/corbellaw11.CallReqs -/
def c3 : AC := (.seq (.reg c3_r0) (.seq (.reg c3_r1) (.seq (.reg c3_r2) (.seq (.reg c3_r3) (.seq (.reg c3_r4) (.seq (.seq (.reg c3_r5) (.cond (.tmp 31) (.reg c3_r6) .skip)) (.seq (.seq (.reg c3_r7) (.cond (.tmp 52) (.seq (.reg c3_r8) .ret) .skip)) (.seq (.reg c3_r9) (.seq (.seq (.reg c3_r10) (.cond (.tmp 62) (.seq (.reg c3_r11) (.seq (.reg c3_r12) (.block 0 (.loop c3_l0)))) .skip)) (.seq (.reg c3_r16) (.seq (.reg c3_r17) (.seq (.reg c3_r18) .ret))))))))))))
theorem c3_eq : Try.f3.body.map comp = some c3 := by kernel_rfl
theorem c3_n : Try.f3.ntmps = 119 := by kernel_rfl
theorem c3_rs : Try.f3.results.toList = [.tmp 10] := by kernel_rfl
def c4_r0 : List GOp := [⟨none, (some 2), (.box 23 (.tmp 0))⟩,
  ⟨none, (some 3), (.box 23 (.tmp 1))⟩,
  ⟨none, (some 4), (.assign (.const (.bool false)))⟩]
def c4_r1 : List GOp := [⟨none, (some 13), (.load 23 (.tmp 2))⟩,
  ⟨none, (some 14), (.call { callee := (.value (.func 7)), args := #[(.tmp 13)], argTypes := #[23] })⟩,
  ⟨none, (some 5), (.alloc 27)⟩,
  ⟨none, none, (.store 27 (.tmp 5) (.tmp 14))⟩]
def c4_r2 : List GOp := [⟨none, (some 15), (.load 23 (.tmp 3))⟩,
  ⟨none, (some 16), (.call { callee := (.value (.func 7)), args := #[(.tmp 15)], argTypes := #[23] })⟩,
  ⟨none, (some 6), (.alloc 27)⟩,
  ⟨none, none, (.store 27 (.tmp 6) (.tmp 16))⟩]
def c4_r3 : List GOp := [⟨none, (some 18), (.load 27 (.tmp 5))⟩,
  ⟨none, (some 19), (.call { callee := (.value (.func 9)), args := #[(.tmp 18)], argTypes := #[27] })⟩,
  ⟨none, (some 17), (.move (.tmp 19))⟩,
  ⟨none, (some 20), (.extract (.tmp 17) 0)⟩,
  ⟨none, (some 21), (.extract (.tmp 17) 1)⟩,
  ⟨none, (some 7), (.assign (.tmp 20))⟩,
  ⟨none, (some 8), (.assign (.tmp 21))⟩]
def c4_r4 : List GOp := [⟨none, (some 23), (.load 27 (.tmp 6))⟩,
  ⟨none, (some 24), (.call { callee := (.value (.func 9)), args := #[(.tmp 23)], argTypes := #[27] })⟩,
  ⟨none, (some 22), (.move (.tmp 24))⟩,
  ⟨none, (some 25), (.extract (.tmp 22) 0)⟩,
  ⟨none, (some 26), (.extract (.tmp 22) 1)⟩,
  ⟨none, (some 9), (.assign (.tmp 25))⟩,
  ⟨none, (some 10), (.assign (.tmp 26))⟩]
def c4_r5 : List GOp := [⟨none, (some 27), (.call { callee := (.value (.func 15)), args := #[], argTypes := #[] })⟩,
  ⟨none, (some 28), (.unOp .not 4 (.tmp 27))⟩,
  ⟨none, (some 29), (.move (.tmp 28))⟩,
  ⟨(some (29, false)), (some 30), (.move (.tmp 8))⟩,
  ⟨(some (29, false)), (some 31), (.binOp .neq 30 (.tmp 30) (.const (.int .i64 0)) 30)⟩,
  ⟨none, (some 32), (.pick (.tmp 29) (.const (.bool true)) (.tmp 31))⟩,
  ⟨none, (some 33), (.move (.tmp 32))⟩,
  ⟨(some (33, false)), (some 34), (.move (.tmp 10))⟩,
  ⟨(some (33, false)), (some 35), (.binOp .neq 30 (.tmp 34) (.const (.int .i64 0)) 30)⟩,
  ⟨none, (some 36), (.pick (.tmp 33) (.const (.bool true)) (.tmp 35))⟩]
def c4_r6 : List GOp := [⟨none, (some 37), (.call { callee := (.value (.func 15)), args := #[], argTypes := #[] })⟩,
  ⟨none, (some 4), (.assign (.tmp 37))⟩]
def c4_r7 : List GOp := [⟨none, (some 39), (.move (.tmp 7))⟩,
  ⟨none, (some 40), (.call { callee := (.value (.func 13)), args := #[(.tmp 39)], argTypes := #[24] })⟩,
  ⟨none, (some 38), (.move (.tmp 40))⟩,
  ⟨none, (some 41), (.extract (.tmp 38) 0)⟩,
  ⟨none, (some 42), (.extract (.tmp 38) 1)⟩,
  ⟨none, (some 11), (.alloc 27)⟩,
  ⟨none, none, (.store 27 (.tmp 11) (.tmp 41))⟩,
  ⟨none, (some 12), (.assign (.tmp 42))⟩]
def c4_d8_ops : Array Oper := #[{ dst := (some 43), op := (.move (.tmp 12)), type := 30, pos := "law.go:109", after := #[], guard := none },
  { dst := (some 44), op := (.binOp .eql 30 (.tmp 43) (.const (.int .i64 0)) 30), type := 4, pos := "law.go:109", after := #[⟨0, .data⟩], guard := none },
  { dst := (some 45), op := (.move (.tmp 44)), type := 4, pos := "law.go:109", after := #[⟨1, .data⟩], guard := none },
  { dst := (some 46), op := (.load 27 (.tmp 5)), type := 27, pos := "law.go:109", after := #[⟨2, .guard⟩], guard := (some (2, true)) },
  { dst := (some 47), op := (.load 27 (.tmp 11)), type := 27, pos := "law.go:109", after := #[⟨2, .guard⟩], guard := (some (2, true)) },
  { dst := (some 48), op := (.call { callee := (.value (.func 16)), args := #[(.tmp 46), (.tmp 47)], argTypes := #[27, 27] }), type := 4, pos := "law.go:109", after := #[⟨3, .data⟩, ⟨4, .data⟩, ⟨2, .chain⟩, ⟨2, .guard⟩], guard := (some (2, true)) },
  { dst := (some 49), op := (.pick (.tmp 45) (.tmp 48) (.const (.bool false))), type := 4, pos := "law.go:109", after := #[⟨2, .data⟩, ⟨5, .data⟩], guard := none },
  { dst := (some 50), op := (.move (.tmp 49)), type := 4, pos := "law.go:109", after := #[⟨6, .data⟩, ⟨5, .chain⟩], guard := none },
  { dst := (some 51), op := (.move (.tmp 7)), type := 24, pos := "law.go:109", after := #[⟨7, .guard⟩], guard := (some (7, true)) },
  { dst := (some 52), op := (.convert 24 9 (.tmp 51)), type := 9, pos := "law.go:109", after := #[⟨8, .data⟩, ⟨7, .guard⟩], guard := (some (7, true)) },
  { dst := (some 53), op := (.move (.tmp 9)), type := 24, pos := "law.go:109", after := #[⟨7, .guard⟩], guard := (some (7, true)) },
  { dst := (some 54), op := (.convert 24 9 (.tmp 53)), type := 9, pos := "law.go:109", after := #[⟨10, .data⟩, ⟨7, .guard⟩], guard := (some (7, true)) },
  { dst := (some 55), op := (.binOp .eql 9 (.tmp 52) (.tmp 54) 9), type := 4, pos := "law.go:109", after := #[⟨9, .data⟩, ⟨11, .data⟩, ⟨7, .guard⟩], guard := (some (7, true)) },
  { dst := (some 56), op := (.load 27 (.tmp 5)), type := 27, pos := "law.go:109", after := #[⟨7, .guard⟩], guard := (some (7, true)) },
  { dst := (some 57), op := (.load 27 (.tmp 6)), type := 27, pos := "law.go:109", after := #[⟨7, .guard⟩], guard := (some (7, true)) },
  { dst := (some 58), op := (.call { callee := (.value (.func 16)), args := #[(.tmp 56), (.tmp 57)], argTypes := #[27, 27] }), type := 4, pos := "law.go:109", after := #[⟨13, .data⟩, ⟨14, .data⟩, ⟨7, .chain⟩, ⟨7, .guard⟩], guard := (some (7, true)) },
  { dst := (some 59), op := (.binOp .eql 4 (.tmp 55) (.tmp 58) 4), type := 4, pos := "law.go:109", after := #[⟨12, .data⟩, ⟨15, .data⟩, ⟨7, .guard⟩], guard := (some (7, true)) },
  { dst := (some 60), op := (.pick (.tmp 50) (.tmp 59) (.const (.bool false))), type := 4, pos := "law.go:109", after := #[⟨7, .data⟩, ⟨16, .data⟩], guard := none },
  { dst := (some 4), op := (.assign (.tmp 60)), type := 4, pos := "law.go:109", after := #[⟨17, .data⟩, ⟨15, .chain⟩, ⟨0, .phase⟩, ⟨1, .phase⟩, ⟨2, .phase⟩, ⟨3, .phase⟩, ⟨4, .phase⟩, ⟨5, .phase⟩, ⟨6, .phase⟩, ⟨7, .phase⟩, ⟨8, .phase⟩, ⟨9, .phase⟩, ⟨10, .phase⟩, ⟨11, .phase⟩, ⟨12, .phase⟩, ⟨13, .phase⟩, ⟨14, .phase⟩, ⟨15, .phase⟩, ⟨16, .phase⟩, ⟨17, .phase⟩], guard := none }]
def c4_d8 : Code := .region 8 c4_d8_ops true
/-- corbel/corbellaw11.CallBack -/
def c4 : AC := (.seq (.reg c4_r0) (.seq (.reg c4_r1) (.seq (.reg c4_r2) (.seq (.reg c4_r3) (.seq (.reg c4_r4) (.seq (.seq (.reg c4_r5) (.cond (.tmp 36) (.seq (.reg c4_r6) .ret) .skip)) (.seq (.reg c4_r7) (.seq (.raw c4_d8) .ret))))))))
theorem c4_eq : Try.f4.body.map comp = some c4 := by kernel_rfl
theorem c4_n : Try.f4.ntmps = 61 := by kernel_rfl
theorem c4_rs : Try.f4.results.toList = [.tmp 4] := by kernel_rfl
def c5_r0 : List GOp := [⟨none, (some 5), (.box 23 (.tmp 0))⟩,
  ⟨none, (some 10), (.assign (.const (.bool false)))⟩]
def c5_r1 : List GOp := [⟨none, (some 29), (.call { callee := (.value (.func 15)), args := #[], argTypes := #[] })⟩,
  ⟨none, (some 30), (.unOp .not 4 (.tmp 29))⟩]
def c5_r2 : List GOp := [⟨none, (some 10), (.assign (.const (.bool false)))⟩]
def c5_r3 : List GOp := [⟨none, (some 31), (.load 23 (.tmp 5))⟩,
  ⟨none, (some 32), (.call { callee := (.value (.func 7)), args := #[(.tmp 31)], argTypes := #[23] })⟩,
  ⟨none, (some 11), (.alloc 27)⟩,
  ⟨none, none, (.store 27 (.tmp 11) (.tmp 32))⟩]
def c5_r4 : List GOp := [⟨none, (some 34), (.load 27 (.tmp 11))⟩,
  ⟨none, (some 35), (.call { callee := (.value (.func 9)), args := #[(.tmp 34)], argTypes := #[27] })⟩,
  ⟨none, (some 33), (.move (.tmp 35))⟩,
  ⟨none, (some 36), (.extract (.tmp 33) 0)⟩,
  ⟨none, (some 37), (.extract (.tmp 33) 1)⟩,
  ⟨none, (some 12), (.assign (.tmp 36))⟩,
  ⟨none, (some 13), (.assign (.tmp 37))⟩]
def c5_r5 : List GOp := [⟨none, (some 38), (.move (.tmp 13))⟩,
  ⟨none, (some 39), (.binOp .eql 30 (.tmp 38) (.const (.int .i64 0)) 30)⟩]
def c5_r6 : List GOp := [⟨none, (some 41), (.move (.tmp 12))⟩,
  ⟨none, (some 42), (.move (.tmp 12))⟩,
  ⟨none, (some 43), (.call { callee := (.builtin .len), args := #[(.tmp 42)], argTypes := #[24] })⟩,
  ⟨none, (some 44), (.binOp .sub 3 (.tmp 43) (.const (.int .i64 1)) 3)⟩,
  ⟨none, (some 45), (.call { callee := (.builtin .max), args := #[(.const (.int .i64 0)), (.tmp 44)], argTypes := #[3, 3] })⟩,
  ⟨none, (some 46), (.slice 24 (.tmp 41) none (some (.tmp 45)) none)⟩,
  ⟨none, (some 47), (.call { callee := (.value (.func 13)), args := #[(.tmp 46)], argTypes := #[24] })⟩,
  ⟨none, (some 40), (.move (.tmp 47))⟩,
  ⟨none, (some 48), (.extract (.tmp 40) 0)⟩,
  ⟨none, (some 49), (.extract (.tmp 40) 1)⟩,
  ⟨none, (some 14), (.alloc 27)⟩,
  ⟨none, none, (.store 27 (.tmp 14) (.tmp 48))⟩,
  ⟨none, (some 15), (.assign (.tmp 49))⟩]
def c5_r7 : List GOp := [⟨none, (some 51), (.buildSlice 24 0 #[])⟩,
  ⟨none, (some 52), (.move (.tmp 12))⟩,
  ⟨none, (some 53), (.call { callee := (.builtin .append), args := #[(.tmp 51), (.tmp 52)], argTypes := #[24, 24] })⟩,
  ⟨none, (some 54), (.move (.tmp 4))⟩,
  ⟨none, (some 55), (.buildSlice 24 1 #[(0, (.tmp 54))])⟩,
  ⟨none, (some 56), (.call { callee := (.builtin .append), args := #[(.tmp 53), (.tmp 55)], argTypes := #[24, 24] })⟩,
  ⟨none, (some 57), (.call { callee := (.value (.func 13)), args := #[(.tmp 56)], argTypes := #[24] })⟩,
  ⟨none, (some 50), (.move (.tmp 57))⟩,
  ⟨none, (some 58), (.extract (.tmp 50) 0)⟩,
  ⟨none, (some 59), (.extract (.tmp 50) 1)⟩,
  ⟨none, (some 16), (.alloc 27)⟩,
  ⟨none, none, (.store 27 (.tmp 16) (.tmp 58))⟩,
  ⟨none, (some 17), (.assign (.tmp 59))⟩]
def c5_r8 : List GOp := [⟨none, (some 60), (.move (.tmp 12))⟩,
  ⟨none, (some 61), (.call { callee := (.builtin .len), args := #[(.tmp 60)], argTypes := #[24] })⟩,
  ⟨none, (some 62), (.fieldAddr 27 (.tmp 11) 4)⟩,
  ⟨none, (some 63), (.load 24 (.tmp 62))⟩,
  ⟨none, (some 64), (.call { callee := (.builtin .len), args := #[(.tmp 63)], argTypes := #[24] })⟩,
  ⟨none, (some 65), (.binOp .add 3 (.const (.int .i64 12)) (.tmp 64) 3)⟩,
  ⟨none, (some 66), (.binOp .neq 3 (.tmp 61) (.tmp 65) 3)⟩,
  ⟨none, (some 67), (.move (.tmp 66))⟩,
  ⟨(some (67, false)), (some 68), (.move (.tmp 15))⟩,
  ⟨(some (67, false)), (some 69), (.binOp .neq 30 (.tmp 68) (.const (.int .i64 2)) 30)⟩,
  ⟨none, (some 70), (.pick (.tmp 67) (.const (.bool true)) (.tmp 69))⟩,
  ⟨none, (some 71), (.move (.tmp 70))⟩,
  ⟨(some (71, false)), (some 72), (.move (.tmp 17))⟩,
  ⟨(some (71, false)), (some 73), (.binOp .neq 30 (.tmp 72) (.const (.int .i64 2)) 30)⟩,
  ⟨none, (some 74), (.pick (.tmp 71) (.const (.bool true)) (.tmp 73))⟩]
def c5_r9 : List GOp := [⟨none, (some 10), (.assign (.const (.bool false)))⟩]
def c5_r10 : List GOp := [⟨none, (some 18), (.alloc 47)⟩]
def c5_r11 : List GOp := [⟨none, (some 19), (.assign (.const (.int .i64 0)))⟩]
def c5_r12 : List GOp := [⟨none, (some 75), (.move (.tmp 19))⟩,
  ⟨none, (some 76), (.move (.tmp 1))⟩,
  ⟨none, (some 77), (.call { callee := (.value (.func 12)), args := #[(.tmp 76), (.const (.int .i64 3))], argTypes := #[3, 3] })⟩,
  ⟨none, (some 78), (.binOp .lss 3 (.tmp 75) (.tmp 77) 3)⟩]
def c5_d14_ops : Array Oper := #[{ dst := (some 81), op := (.fieldAddr 47 (.tmp 18) 2), type := 0, pos := "more.go:27", after := #[], guard := none },
  { dst := (some 82), op := (.load 44 (.tmp 81)), type := 44, pos := "more.go:27", after := #[⟨0, .data⟩], guard := none },
  { dst := (some 83), op := (.move (.tmp 3)), type := 3, pos := "more.go:27", after := #[], guard := none },
  { dst := (some 84), op := (.move (.tmp 19)), type := 3, pos := "more.go:27", after := #[], guard := none },
  { dst := (some 85), op := (.move (.tmp 19)), type := 3, pos := "more.go:27", after := #[], guard := none },
  { dst := (some 86), op := (.move (.tmp 3)), type := 3, pos := "more.go:27", after := #[], guard := none },
  { dst := (some 87), op := (.call { callee := (.value (.func 17)), args := #[(.tmp 83), (.tmp 84), (.tmp 85), (.tmp 86), (.const (.int .i64 0))], argTypes := #[3, 3, 3, 3, 3] }), type := 49, pos := "more.go:27", after := #[⟨2, .data⟩, ⟨3, .data⟩, ⟨4, .data⟩, ⟨5, .data⟩], guard := none },
  { dst := (some 88), op := (.buildSlice 44 1 #[(0, (.tmp 87))]), type := 44, pos := "more.go:27", after := #[⟨6, .data⟩], guard := none },
  { dst := (some 89), op := (.call { callee := (.builtin .append), args := #[(.tmp 82), (.tmp 88)], argTypes := #[44, 44] }), type := 44, pos := "more.go:27", after := #[⟨1, .data⟩, ⟨7, .data⟩, ⟨6, .chain⟩], guard := none },
  { dst := (some 90), op := (.fieldAddr 47 (.tmp 18) 2), type := 0, pos := "more.go:27", after := #[⟨0, .phase⟩, ⟨1, .phase⟩, ⟨2, .phase⟩, ⟨3, .phase⟩, ⟨4, .phase⟩, ⟨5, .phase⟩, ⟨6, .phase⟩, ⟨7, .phase⟩, ⟨8, .phase⟩], guard := none },
  { dst := none, op := (.store 44 (.tmp 90) (.tmp 89)), type := 0, pos := "more.go:27", after := #[⟨9, .data⟩, ⟨8, .data⟩, ⟨8, .chain⟩, ⟨0, .phase⟩, ⟨1, .phase⟩, ⟨2, .phase⟩, ⟨3, .phase⟩, ⟨4, .phase⟩, ⟨5, .phase⟩, ⟨6, .phase⟩, ⟨7, .phase⟩, ⟨8, .phase⟩], guard := none }]
def c5_d14 : Code := .region 14 c5_d14_ops true
def c5_r13 : List GOp := [⟨none, (some 79), (.move (.tmp 19))⟩,
  ⟨none, (some 80), (.binOp .add 3 (.tmp 79) (.const (.int .i64 1)) 3)⟩,
  ⟨none, (some 19), (.assign (.tmp 80))⟩]
def c5_l0 : AC := (.seq (.seq (.reg c5_r12) (.cond (.tmp 78) .skip (.exit 0))) (.seq (.block 1 (.raw c5_d14)) (.reg c5_r13)))
def c5_r15 : List GOp := [⟨none, (some 20), (.assign (.const (.int .i64 0)))⟩]
def c5_r16 : List GOp := [⟨none, (some 91), (.move (.tmp 20))⟩,
  ⟨none, (some 92), (.move (.tmp 2))⟩,
  ⟨none, (some 93), (.call { callee := (.value (.func 12)), args := #[(.tmp 92), (.const (.int .i64 17))], argTypes := #[3, 3] })⟩,
  ⟨none, (some 94), (.binOp .lss 3 (.tmp 91) (.tmp 93) 3)⟩]
def c5_d18_ops : Array Oper := #[{ dst := (some 97), op := (.fieldAddr 47 (.tmp 18) 3), type := 0, pos := "more.go:30", after := #[], guard := none },
  { dst := (some 98), op := (.load 45 (.tmp 97)), type := 45, pos := "more.go:30", after := #[⟨0, .data⟩], guard := none },
  { dst := (some 99), op := (.move (.tmp 20)), type := 3, pos := "more.go:30", after := #[], guard := none },
  { dst := (some 100), op := (.move (.tmp 20)), type := 3, pos := "more.go:30", after := #[], guard := none },
  { dst := (some 101), op := (.move (.tmp 3)), type := 3, pos := "more.go:30", after := #[], guard := none },
  { dst := (some 102), op := (.move (.tmp 20)), type := 3, pos := "more.go:30", after := #[], guard := none },
  { dst := (some 103), op := (.binOp .add 3 (.tmp 101) (.tmp 102) 3), type := 3, pos := "more.go:30", after := #[⟨4, .data⟩, ⟨5, .data⟩], guard := none },
  { dst := (some 104), op := (.call { callee := (.value (.func 18)), args := #[(.tmp 99), (.tmp 100), (.tmp 103), (.const (.int .i64 0))], argTypes := #[3, 3, 3, 3] }), type := 52, pos := "more.go:30", after := #[⟨2, .data⟩, ⟨3, .data⟩, ⟨6, .data⟩], guard := none },
  { dst := (some 105), op := (.buildSlice 45 1 #[(0, (.tmp 104))]), type := 45, pos := "more.go:30", after := #[⟨7, .data⟩], guard := none },
  { dst := (some 106), op := (.call { callee := (.builtin .append), args := #[(.tmp 98), (.tmp 105)], argTypes := #[45, 45] }), type := 45, pos := "more.go:30", after := #[⟨1, .data⟩, ⟨8, .data⟩, ⟨7, .chain⟩], guard := none },
  { dst := (some 107), op := (.fieldAddr 47 (.tmp 18) 3), type := 0, pos := "more.go:30", after := #[⟨0, .phase⟩, ⟨1, .phase⟩, ⟨2, .phase⟩, ⟨3, .phase⟩, ⟨4, .phase⟩, ⟨5, .phase⟩, ⟨6, .phase⟩, ⟨7, .phase⟩, ⟨8, .phase⟩, ⟨9, .phase⟩], guard := none },
  { dst := none, op := (.store 45 (.tmp 107) (.tmp 106)), type := 0, pos := "more.go:30", after := #[⟨10, .data⟩, ⟨9, .data⟩, ⟨9, .chain⟩, ⟨0, .phase⟩, ⟨1, .phase⟩, ⟨2, .phase⟩, ⟨3, .phase⟩, ⟨4, .phase⟩, ⟨5, .phase⟩, ⟨6, .phase⟩, ⟨7, .phase⟩, ⟨8, .phase⟩, ⟨9, .phase⟩], guard := none }]
def c5_d18 : Code := .region 18 c5_d18_ops true
def c5_r17 : List GOp := [⟨none, (some 95), (.move (.tmp 20))⟩,
  ⟨none, (some 96), (.binOp .add 3 (.tmp 95) (.const (.int .i64 1)) 3)⟩,
  ⟨none, (some 20), (.assign (.tmp 96))⟩]
def c5_l1 : AC := (.seq (.seq (.reg c5_r16) (.cond (.tmp 94) .skip (.exit 2))) (.seq (.block 3 (.raw c5_d18)) (.reg c5_r17)))
def c5_r19 : List GOp := [⟨none, (some 109), (.load 47 (.tmp 18))⟩,
  ⟨none, (some 110), (.call { callee := (.value (.func 19)), args := #[(.tmp 109)], argTypes := #[47] })⟩,
  ⟨none, (some 108), (.move (.tmp 110))⟩,
  ⟨none, (some 111), (.extract (.tmp 108) 0)⟩,
  ⟨none, (some 112), (.extract (.tmp 108) 1)⟩,
  ⟨none, (some 21), (.assign (.tmp 111))⟩,
  ⟨none, (some 22), (.assign (.tmp 112))⟩]
def c5_r20 : List GOp := [⟨none, (some 113), (.move (.tmp 22))⟩,
  ⟨none, (some 114), (.binOp .neq 30 (.tmp 113) (.const (.int .i64 0)) 30)⟩,
  ⟨none, (some 115), (.move (.tmp 114))⟩,
  ⟨(some (115, false)), (some 116), (.move (.tmp 21))⟩,
  ⟨(some (115, false)), (some 117), (.call { callee := (.builtin .len), args := #[(.tmp 116)], argTypes := #[24] })⟩,
  ⟨(some (115, false)), (some 118), (.fieldAddr 47 (.tmp 18) 2)⟩,
  ⟨(some (115, false)), (some 119), (.load 44 (.tmp 118))⟩,
  ⟨(some (115, false)), (some 120), (.call { callee := (.builtin .len), args := #[(.tmp 119)], argTypes := #[44] })⟩,
  ⟨(some (115, false)), (some 121), (.binOp .mul 3 (.const (.int .i64 40)) (.tmp 120) 3)⟩,
  ⟨(some (115, false)), (some 122), (.binOp .add 3 (.const (.int .i64 7)) (.tmp 121) 3)⟩,
  ⟨(some (115, false)), (some 123), (.fieldAddr 47 (.tmp 18) 3)⟩,
  ⟨(some (115, false)), (some 124), (.load 45 (.tmp 123))⟩,
  ⟨(some (115, false)), (some 125), (.call { callee := (.builtin .len), args := #[(.tmp 124)], argTypes := #[45] })⟩,
  ⟨(some (115, false)), (some 126), (.binOp .mul 3 (.const (.int .i64 135)) (.tmp 125) 3)⟩,
  ⟨(some (115, false)), (some 127), (.binOp .add 3 (.tmp 122) (.tmp 126) 3)⟩,
  ⟨(some (115, false)), (some 128), (.binOp .neq 3 (.tmp 117) (.tmp 127) 3)⟩,
  ⟨none, (some 129), (.pick (.tmp 115) (.const (.bool true)) (.tmp 128))⟩]
def c5_r21 : List GOp := [⟨none, (some 10), (.assign (.const (.bool false)))⟩]
def c5_r22 : List GOp := [⟨none, (some 131), (.move (.tmp 21))⟩,
  ⟨none, (some 132), (.move (.tmp 21))⟩,
  ⟨none, (some 133), (.call { callee := (.builtin .len), args := #[(.tmp 132)], argTypes := #[24] })⟩,
  ⟨none, (some 134), (.binOp .sub 3 (.tmp 133) (.const (.int .i64 1)) 3)⟩,
  ⟨none, (some 135), (.slice 24 (.tmp 131) none (some (.tmp 134)) none)⟩,
  ⟨none, (some 136), (.call { callee := (.value (.func 20)), args := #[(.tmp 135)], argTypes := #[24] })⟩,
  ⟨none, (some 130), (.move (.tmp 136))⟩,
  ⟨none, (some 137), (.extract (.tmp 130) 0)⟩,
  ⟨none, (some 138), (.extract (.tmp 130) 1)⟩,
  ⟨none, (some 23), (.alloc 47)⟩,
  ⟨none, none, (.store 47 (.tmp 23) (.tmp 137))⟩,
  ⟨none, (some 24), (.assign (.tmp 138))⟩]
def c5_r23 : List GOp := [⟨none, (some 140), (.buildSlice 24 0 #[])⟩,
  ⟨none, (some 141), (.move (.tmp 21))⟩,
  ⟨none, (some 142), (.call { callee := (.builtin .append), args := #[(.tmp 140), (.tmp 141)], argTypes := #[24, 24] })⟩,
  ⟨none, (some 143), (.move (.tmp 4))⟩,
  ⟨none, (some 144), (.buildSlice 24 1 #[(0, (.tmp 143))])⟩,
  ⟨none, (some 145), (.call { callee := (.builtin .append), args := #[(.tmp 142), (.tmp 144)], argTypes := #[24, 24] })⟩,
  ⟨none, (some 146), (.call { callee := (.value (.func 20)), args := #[(.tmp 145)], argTypes := #[24] })⟩,
  ⟨none, (some 139), (.move (.tmp 146))⟩,
  ⟨none, (some 147), (.extract (.tmp 139) 0)⟩,
  ⟨none, (some 148), (.extract (.tmp 139) 1)⟩,
  ⟨none, (some 25), (.alloc 47)⟩,
  ⟨none, none, (.store 47 (.tmp 25) (.tmp 147))⟩,
  ⟨none, (some 26), (.assign (.tmp 148))⟩]
def c5_r24 : List GOp := [⟨none, (some 150), (.move (.tmp 21))⟩,
  ⟨none, (some 151), (.call { callee := (.value (.func 20)), args := #[(.tmp 150)], argTypes := #[24] })⟩,
  ⟨none, (some 149), (.move (.tmp 151))⟩,
  ⟨none, (some 152), (.extract (.tmp 149) 0)⟩,
  ⟨none, (some 153), (.extract (.tmp 149) 1)⟩,
  ⟨none, (some 27), (.alloc 47)⟩,
  ⟨none, none, (.store 47 (.tmp 27) (.tmp 152))⟩,
  ⟨none, (some 28), (.assign (.tmp 153))⟩]
def c5_r25 : List GOp := [⟨none, (some 154), (.move (.tmp 24))⟩,
  ⟨none, (some 155), (.binOp .eql 30 (.tmp 154) (.const (.int .i64 2)) 30)⟩,
  ⟨none, (some 156), (.move (.tmp 155))⟩,
  ⟨(some (156, true)), (some 157), (.move (.tmp 26))⟩,
  ⟨(some (156, true)), (some 158), (.binOp .eql 30 (.tmp 157) (.const (.int .i64 2)) 30)⟩,
  ⟨none, (some 159), (.pick (.tmp 156) (.tmp 158) (.const (.bool false)))⟩,
  ⟨none, (some 160), (.move (.tmp 159))⟩,
  ⟨(some (160, true)), (some 161), (.move (.tmp 28))⟩,
  ⟨(some (160, true)), (some 162), (.binOp .eql 30 (.tmp 161) (.const (.int .i64 0)) 30)⟩,
  ⟨none, (some 163), (.pick (.tmp 160) (.tmp 162) (.const (.bool false)))⟩,
  ⟨none, (some 164), (.move (.tmp 163))⟩,
  ⟨(some (164, true)), (some 165), (.load 47 (.tmp 18))⟩,
  ⟨(some (164, true)), (some 166), (.load 47 (.tmp 27))⟩,
  ⟨(some (164, true)), (some 167), (.call { callee := (.value (.func 21)), args := #[(.tmp 165), (.tmp 166)], argTypes := #[47, 47] })⟩,
  ⟨none, (some 168), (.pick (.tmp 164) (.tmp 167) (.const (.bool false)))⟩,
  ⟨none, (some 10), (.assign (.tmp 168))⟩]
/-- corbel/corbellaw11.CallSizes -/
def c5 : AC := (.seq (.reg c5_r0) (.seq (.seq (.reg c5_r1) (.cond (.tmp 30) (.seq (.reg c5_r2) .ret) .skip)) (.seq (.reg c5_r3) (.seq (.reg c5_r4) (.seq (.seq (.reg c5_r5) (.cond (.tmp 39) (.seq (.reg c5_r6) (.seq (.reg c5_r7) (.seq (.reg c5_r8) (.cond (.tmp 74) (.seq (.reg c5_r9) .ret) .skip)))) .skip)) (.seq (.reg c5_r10) (.seq (.seq (.reg c5_r11) (.block 0 (.loop c5_l0))) (.seq (.seq (.reg c5_r15) (.block 2 (.loop c5_l1))) (.seq (.reg c5_r19) (.seq (.seq (.reg c5_r20) (.cond (.tmp 129) (.seq (.reg c5_r21) .ret) .skip)) (.seq (.reg c5_r22) (.seq (.reg c5_r23) (.seq (.reg c5_r24) (.seq (.reg c5_r25) .ret))))))))))))))
theorem c5_eq : Try.f5.body.map comp = some c5 := by kernel_rfl
theorem c5_n : Try.f5.ntmps = 169 := by kernel_rfl
theorem c5_rs : Try.f5.results.toList = [.tmp 10] := by kernel_rfl
def c6_r0 : List GOp := [⟨none, (some 16), (.assign (.const (.bool false)))⟩]
def c6_r1 : List GOp := [⟨none, (some 29), (.move (.tmp 0))⟩,
  ⟨none, (some 30), (.call { callee := (.value (.func 12)), args := #[(.tmp 29), (.const (.int .i64 14))], argTypes := #[3, 3] })⟩,
  ⟨none, (some 31), (.move (.tmp 1))⟩,
  ⟨none, (some 32), (.call { callee := (.value (.func 12)), args := #[(.tmp 31), (.const (.int .i64 2147483648))], argTypes := #[3, 3] })⟩,
  ⟨none, (some 33), (.build 47 #[(0, (.tmp 30)), (1, (.tmp 32))])⟩,
  ⟨none, (some 17), (.alloc 47)⟩,
  ⟨none, none, (.store 47 (.tmp 17) (.tmp 33))⟩]
def c6_r2 : List GOp := [⟨none, (some 34), (.move (.tmp 5))⟩,
  ⟨none, (some 35), (.binOp .rem 3 (.tmp 34) (.const (.int .i64 19)) 3)⟩,
  ⟨none, (some 36), (.binOp .eql 3 (.tmp 35) (.const (.int .i64 18)) 3)⟩]
def c6_r3 : List GOp := [⟨none, (some 37), (.move (.tmp 0))⟩,
  ⟨none, (some 38), (.fieldAddr 47 (.tmp 17) 0)⟩,
  ⟨none, none, (.store 30 (.tmp 38) (.tmp 37))⟩]
def c6_r4 : List GOp := [⟨none, (some 39), (.move (.tmp 1))⟩,
  ⟨none, (some 40), (.fieldAddr 47 (.tmp 17) 1)⟩,
  ⟨none, none, (.store 3 (.tmp 40) (.tmp 39))⟩]
def c6_r5 : List GOp := [⟨none, (some 41), (.move (.tmp 3))⟩,
  ⟨none, (some 42), (.call { callee := (.value (.func 12)), args := #[(.tmp 41), (.const (.int .i64 4))], argTypes := #[3, 3] })⟩,
  ⟨none, (some 3), (.assign (.tmp 42))⟩]
def c6_r6 : List GOp := [⟨none, (some 18), (.assign (.const (.int .i64 0)))⟩]
def c6_r7 : List GOp := [⟨none, (some 43), (.move (.tmp 18))⟩,
  ⟨none, (some 44), (.move (.tmp 2))⟩,
  ⟨none, (some 45), (.call { callee := (.builtin .len), args := #[(.tmp 44)], argTypes := #[59] })⟩,
  ⟨none, (some 46), (.binOp .lss 3 (.tmp 43) (.tmp 45) 3)⟩,
  ⟨none, (some 47), (.move (.tmp 46))⟩,
  ⟨(some (47, true)), (some 48), (.move (.tmp 18))⟩,
  ⟨(some (47, true)), (some 49), (.binOp .lss 3 (.tmp 48) (.const (.int .i64 6)) 3)⟩,
  ⟨none, (some 50), (.pick (.tmp 47) (.tmp 49) (.const (.bool false)))⟩]
def c6_r9 : List GOp := [⟨none, (some 53), (.move (.tmp 18))⟩,
  ⟨none, (some 54), (.move (.tmp 3))⟩,
  ⟨none, (some 55), (.binOp .lss 3 (.tmp 53) (.tmp 54) 3)⟩]
def c6_d10_ops : Array Oper := #[{ dst := (some 56), op := (.fieldAddr 47 (.tmp 17) 2), type := 0, pos := "law.go:72", after := #[], guard := none },
  { dst := (some 57), op := (.load 44 (.tmp 56)), type := 44, pos := "law.go:72", after := #[⟨0, .data⟩], guard := none },
  { dst := (some 58), op := (.move (.tmp 2)), type := 59, pos := "law.go:72", after := #[], guard := none },
  { dst := (some 59), op := (.move (.tmp 18)), type := 3, pos := "law.go:72", after := #[], guard := none },
  { dst := (some 60), op := (.indexAddr 59 (.tmp 58) (.tmp 59)), type := 0, pos := "law.go:72", after := #[⟨2, .data⟩, ⟨3, .data⟩], guard := none },
  { dst := (some 61), op := (.fieldAddr 23 (.tmp 60) 1), type := 0, pos := "law.go:72", after := #[⟨4, .data⟩], guard := none },
  { dst := (some 62), op := (.load 3 (.tmp 61)), type := 3, pos := "law.go:72", after := #[⟨5, .data⟩], guard := none },
  { dst := (some 63), op := (.move (.tmp 2)), type := 59, pos := "law.go:72", after := #[], guard := none },
  { dst := (some 64), op := (.move (.tmp 18)), type := 3, pos := "law.go:72", after := #[], guard := none },
  { dst := (some 65), op := (.indexAddr 59 (.tmp 63) (.tmp 64)), type := 0, pos := "law.go:72", after := #[⟨7, .data⟩, ⟨8, .data⟩], guard := none },
  { dst := (some 66), op := (.fieldAddr 23 (.tmp 65) 2), type := 0, pos := "law.go:72", after := #[⟨9, .data⟩], guard := none },
  { dst := (some 67), op := (.load 3 (.tmp 66)), type := 3, pos := "law.go:72", after := #[⟨10, .data⟩], guard := none },
  { dst := (some 68), op := (.move (.tmp 2)), type := 59, pos := "law.go:72", after := #[], guard := none },
  { dst := (some 69), op := (.move (.tmp 18)), type := 3, pos := "law.go:72", after := #[], guard := none },
  { dst := (some 70), op := (.indexAddr 59 (.tmp 68) (.tmp 69)), type := 0, pos := "law.go:72", after := #[⟨12, .data⟩, ⟨13, .data⟩], guard := none },
  { dst := (some 71), op := (.fieldAddr 23 (.tmp 70) 3), type := 0, pos := "law.go:72", after := #[⟨14, .data⟩], guard := none },
  { dst := (some 72), op := (.load 3 (.tmp 71)), type := 3, pos := "law.go:72", after := #[⟨15, .data⟩], guard := none },
  { dst := (some 73), op := (.move (.tmp 2)), type := 59, pos := "law.go:72", after := #[], guard := none },
  { dst := (some 74), op := (.move (.tmp 18)), type := 3, pos := "law.go:72", after := #[], guard := none },
  { dst := (some 75), op := (.indexAddr 59 (.tmp 73) (.tmp 74)), type := 0, pos := "law.go:72", after := #[⟨17, .data⟩, ⟨18, .data⟩], guard := none },
  { dst := (some 76), op := (.fieldAddr 23 (.tmp 75) 4), type := 0, pos := "law.go:72", after := #[⟨19, .data⟩], guard := none },
  { dst := (some 77), op := (.load 3 (.tmp 76)), type := 3, pos := "law.go:72", after := #[⟨20, .data⟩], guard := none },
  { dst := (some 78), op := (.move (.tmp 2)), type := 59, pos := "law.go:72", after := #[], guard := none },
  { dst := (some 79), op := (.move (.tmp 18)), type := 3, pos := "law.go:72", after := #[], guard := none },
  { dst := (some 80), op := (.indexAddr 59 (.tmp 78) (.tmp 79)), type := 0, pos := "law.go:72", after := #[⟨22, .data⟩, ⟨23, .data⟩], guard := none },
  { dst := (some 81), op := (.fieldAddr 23 (.tmp 80) 5), type := 0, pos := "law.go:72", after := #[⟨24, .data⟩], guard := none },
  { dst := (some 82), op := (.load 3 (.tmp 81)), type := 3, pos := "law.go:72", after := #[⟨25, .data⟩], guard := none },
  { dst := (some 83), op := (.call { callee := (.value (.func 17)), args := #[(.tmp 62), (.tmp 67), (.tmp 72), (.tmp 77), (.tmp 82)], argTypes := #[3, 3, 3, 3, 3] }), type := 49, pos := "law.go:72", after := #[⟨6, .data⟩, ⟨11, .data⟩, ⟨16, .data⟩, ⟨21, .data⟩, ⟨26, .data⟩], guard := none },
  { dst := (some 84), op := (.buildSlice 44 1 #[(0, (.tmp 83))]), type := 44, pos := "law.go:72", after := #[⟨27, .data⟩], guard := none },
  { dst := (some 85), op := (.call { callee := (.builtin .append), args := #[(.tmp 57), (.tmp 84)], argTypes := #[44, 44] }), type := 44, pos := "law.go:72", after := #[⟨1, .data⟩, ⟨28, .data⟩, ⟨27, .chain⟩], guard := none },
  { dst := (some 86), op := (.fieldAddr 47 (.tmp 17) 2), type := 0, pos := "law.go:72", after := #[⟨0, .phase⟩, ⟨1, .phase⟩, ⟨2, .phase⟩, ⟨3, .phase⟩, ⟨4, .phase⟩, ⟨5, .phase⟩, ⟨6, .phase⟩, ⟨7, .phase⟩, ⟨8, .phase⟩, ⟨9, .phase⟩, ⟨10, .phase⟩, ⟨11, .phase⟩, ⟨12, .phase⟩, ⟨13, .phase⟩, ⟨14, .phase⟩, ⟨15, .phase⟩, ⟨16, .phase⟩, ⟨17, .phase⟩, ⟨18, .phase⟩, ⟨19, .phase⟩, ⟨20, .phase⟩, ⟨21, .phase⟩, ⟨22, .phase⟩, ⟨23, .phase⟩, ⟨24, .phase⟩, ⟨25, .phase⟩, ⟨26, .phase⟩, ⟨27, .phase⟩, ⟨28, .phase⟩, ⟨29, .phase⟩], guard := none },
  { dst := none, op := (.store 44 (.tmp 86) (.tmp 85)), type := 0, pos := "law.go:72", after := #[⟨30, .data⟩, ⟨29, .data⟩, ⟨29, .chain⟩, ⟨0, .phase⟩, ⟨1, .phase⟩, ⟨2, .phase⟩, ⟨3, .phase⟩, ⟨4, .phase⟩, ⟨5, .phase⟩, ⟨6, .phase⟩, ⟨7, .phase⟩, ⟨8, .phase⟩, ⟨9, .phase⟩, ⟨10, .phase⟩, ⟨11, .phase⟩, ⟨12, .phase⟩, ⟨13, .phase⟩, ⟨14, .phase⟩, ⟨15, .phase⟩, ⟨16, .phase⟩, ⟨17, .phase⟩, ⟨18, .phase⟩, ⟨19, .phase⟩, ⟨20, .phase⟩, ⟨21, .phase⟩, ⟨22, .phase⟩, ⟨23, .phase⟩, ⟨24, .phase⟩, ⟨25, .phase⟩, ⟨26, .phase⟩, ⟨27, .phase⟩, ⟨28, .phase⟩, ⟨29, .phase⟩], guard := none }]
def c6_d10 : Code := .region 10 c6_d10_ops true
def c6_d11_ops : Array Oper := #[{ dst := (some 87), op := (.fieldAddr 47 (.tmp 17) 3), type := 0, pos := "law.go:74", after := #[], guard := none },
  { dst := (some 88), op := (.load 45 (.tmp 87)), type := 45, pos := "law.go:74", after := #[⟨0, .data⟩], guard := none },
  { dst := (some 89), op := (.move (.tmp 2)), type := 59, pos := "law.go:74", after := #[], guard := none },
  { dst := (some 90), op := (.move (.tmp 18)), type := 3, pos := "law.go:74", after := #[], guard := none },
  { dst := (some 91), op := (.indexAddr 59 (.tmp 89) (.tmp 90)), type := 0, pos := "law.go:74", after := #[⟨2, .data⟩, ⟨3, .data⟩], guard := none },
  { dst := (some 92), op := (.fieldAddr 23 (.tmp 91) 1), type := 0, pos := "law.go:74", after := #[⟨4, .data⟩], guard := none },
  { dst := (some 93), op := (.load 3 (.tmp 92)), type := 3, pos := "law.go:74", after := #[⟨5, .data⟩], guard := none },
  { dst := (some 94), op := (.move (.tmp 2)), type := 59, pos := "law.go:74", after := #[], guard := none },
  { dst := (some 95), op := (.move (.tmp 18)), type := 3, pos := "law.go:74", after := #[], guard := none },
  { dst := (some 96), op := (.indexAddr 59 (.tmp 94) (.tmp 95)), type := 0, pos := "law.go:74", after := #[⟨7, .data⟩, ⟨8, .data⟩], guard := none },
  { dst := (some 97), op := (.fieldAddr 23 (.tmp 96) 2), type := 0, pos := "law.go:74", after := #[⟨9, .data⟩], guard := none },
  { dst := (some 98), op := (.load 3 (.tmp 97)), type := 3, pos := "law.go:74", after := #[⟨10, .data⟩], guard := none },
  { dst := (some 99), op := (.move (.tmp 2)), type := 59, pos := "law.go:74", after := #[], guard := none },
  { dst := (some 100), op := (.move (.tmp 18)), type := 3, pos := "law.go:74", after := #[], guard := none },
  { dst := (some 101), op := (.indexAddr 59 (.tmp 99) (.tmp 100)), type := 0, pos := "law.go:74", after := #[⟨12, .data⟩, ⟨13, .data⟩], guard := none },
  { dst := (some 102), op := (.fieldAddr 23 (.tmp 101) 4), type := 0, pos := "law.go:74", after := #[⟨14, .data⟩], guard := none },
  { dst := (some 103), op := (.load 3 (.tmp 102)), type := 3, pos := "law.go:74", after := #[⟨15, .data⟩], guard := none },
  { dst := (some 104), op := (.move (.tmp 2)), type := 59, pos := "law.go:74", after := #[], guard := none },
  { dst := (some 105), op := (.move (.tmp 18)), type := 3, pos := "law.go:74", after := #[], guard := none },
  { dst := (some 106), op := (.indexAddr 59 (.tmp 104) (.tmp 105)), type := 0, pos := "law.go:74", after := #[⟨17, .data⟩, ⟨18, .data⟩], guard := none },
  { dst := (some 107), op := (.fieldAddr 23 (.tmp 106) 5), type := 0, pos := "law.go:74", after := #[⟨19, .data⟩], guard := none },
  { dst := (some 108), op := (.load 3 (.tmp 107)), type := 3, pos := "law.go:74", after := #[⟨20, .data⟩], guard := none },
  { dst := (some 109), op := (.call { callee := (.value (.func 18)), args := #[(.tmp 93), (.tmp 98), (.tmp 103), (.tmp 108)], argTypes := #[3, 3, 3, 3] }), type := 52, pos := "law.go:74", after := #[⟨6, .data⟩, ⟨11, .data⟩, ⟨16, .data⟩, ⟨21, .data⟩], guard := none },
  { dst := (some 110), op := (.buildSlice 45 1 #[(0, (.tmp 109))]), type := 45, pos := "law.go:74", after := #[⟨22, .data⟩], guard := none },
  { dst := (some 111), op := (.call { callee := (.builtin .append), args := #[(.tmp 88), (.tmp 110)], argTypes := #[45, 45] }), type := 45, pos := "law.go:74", after := #[⟨1, .data⟩, ⟨23, .data⟩, ⟨22, .chain⟩], guard := none },
  { dst := (some 112), op := (.fieldAddr 47 (.tmp 17) 3), type := 0, pos := "law.go:74", after := #[⟨0, .phase⟩, ⟨1, .phase⟩, ⟨2, .phase⟩, ⟨3, .phase⟩, ⟨4, .phase⟩, ⟨5, .phase⟩, ⟨6, .phase⟩, ⟨7, .phase⟩, ⟨8, .phase⟩, ⟨9, .phase⟩, ⟨10, .phase⟩, ⟨11, .phase⟩, ⟨12, .phase⟩, ⟨13, .phase⟩, ⟨14, .phase⟩, ⟨15, .phase⟩, ⟨16, .phase⟩, ⟨17, .phase⟩, ⟨18, .phase⟩, ⟨19, .phase⟩, ⟨20, .phase⟩, ⟨21, .phase⟩, ⟨22, .phase⟩, ⟨23, .phase⟩, ⟨24, .phase⟩], guard := none },
  { dst := none, op := (.store 45 (.tmp 112) (.tmp 111)), type := 0, pos := "law.go:74", after := #[⟨25, .data⟩, ⟨24, .data⟩, ⟨24, .chain⟩, ⟨0, .phase⟩, ⟨1, .phase⟩, ⟨2, .phase⟩, ⟨3, .phase⟩, ⟨4, .phase⟩, ⟨5, .phase⟩, ⟨6, .phase⟩, ⟨7, .phase⟩, ⟨8, .phase⟩, ⟨9, .phase⟩, ⟨10, .phase⟩, ⟨11, .phase⟩, ⟨12, .phase⟩, ⟨13, .phase⟩, ⟨14, .phase⟩, ⟨15, .phase⟩, ⟨16, .phase⟩, ⟨17, .phase⟩, ⟨18, .phase⟩, ⟨19, .phase⟩, ⟨20, .phase⟩, ⟨21, .phase⟩, ⟨22, .phase⟩, ⟨23, .phase⟩, ⟨24, .phase⟩], guard := none }]
def c6_d11 : Code := .region 11 c6_d11_ops true
def c6_r8 : List GOp := [⟨none, (some 51), (.move (.tmp 18))⟩,
  ⟨none, (some 52), (.binOp .add 3 (.tmp 51) (.const (.int .i64 1)) 3)⟩,
  ⟨none, (some 18), (.assign (.tmp 52))⟩]
def c6_l0 : AC := (.seq (.seq (.reg c6_r7) (.cond (.tmp 50) .skip (.exit 0))) (.seq (.block 1 (.seq (.reg c6_r9) (.cond (.tmp 55) (.raw c6_d10) (.raw c6_d11)))) (.reg c6_r8)))
def c6_r12 : List GOp := [⟨none, (some 113), (.load 47 (.tmp 17))⟩,
  ⟨none, (some 114), (.call { callee := (.value (.func 22)), args := #[(.tmp 113)], argTypes := #[47] })⟩,
  ⟨none, (some 19), (.assign (.tmp 114))⟩]
def c6_r13 : List GOp := [⟨none, (some 116), (.load 47 (.tmp 17))⟩,
  ⟨none, (some 117), (.call { callee := (.value (.func 19)), args := #[(.tmp 116)], argTypes := #[47] })⟩,
  ⟨none, (some 115), (.move (.tmp 117))⟩,
  ⟨none, (some 118), (.extract (.tmp 115) 0)⟩,
  ⟨none, (some 119), (.extract (.tmp 115) 1)⟩,
  ⟨none, (some 20), (.assign (.tmp 118))⟩,
  ⟨none, (some 21), (.assign (.tmp 119))⟩]
def c6_r14 : List GOp := [⟨none, (some 22), (.assign (.const (.slice none 0 0)))⟩]
def c6_r15 : List GOp := [⟨none, (some 120), (.move (.tmp 19))⟩]
def c6_r16 : List GOp := [⟨none, (some 121), (.load 47 (.tmp 17))⟩,
  ⟨none, (some 122), (.call { callee := (.value (.func 23)), args := #[(.tmp 121)], argTypes := #[47] })⟩,
  ⟨none, (some 22), (.assign (.tmp 122))⟩]
def c6_r17 : List GOp := [⟨none, (some 123), (.move (.tmp 20))⟩,
  ⟨none, (some 124), (.convert 24 9 (.tmp 123))⟩,
  ⟨none, (some 125), (.move (.tmp 22))⟩,
  ⟨none, (some 126), (.convert 24 9 (.tmp 125))⟩,
  ⟨none, (some 127), (.binOp .neq 9 (.tmp 124) (.tmp 126) 9)⟩,
  ⟨none, (some 128), (.move (.tmp 127))⟩,
  ⟨(some (128, false)), (some 129), (.move (.tmp 21))⟩,
  ⟨(some (128, false)), (some 130), (.binOp .eql 30 (.tmp 129) (.const (.int .i64 0)) 30)⟩,
  ⟨(some (128, false)), (some 131), (.move (.tmp 19))⟩,
  ⟨(some (128, false)), (some 132), (.binOp .neq 4 (.tmp 130) (.tmp 131) 4)⟩,
  ⟨none, (some 133), (.pick (.tmp 128) (.const (.bool true)) (.tmp 132))⟩,
  ⟨none, (some 134), (.move (.tmp 133))⟩,
  ⟨(some (134, false)), (some 135), (.move (.tmp 19))⟩,
  ⟨(some (134, false)), (some 136), (.unOp .not 4 (.tmp 135))⟩,
  ⟨(some (134, false)), (some 137), (.move (.tmp 136))⟩,
  ⟨(some (137, true)), (some 138), (.move (.tmp 21))⟩,
  ⟨(some (137, true)), (some 139), (.binOp .neq 30 (.tmp 138) (.const (.int .i64 1)) 30)⟩,
  ⟨(some (134, false)), (some 140), (.pick (.tmp 137) (.tmp 139) (.const (.bool false)))⟩,
  ⟨none, (some 141), (.pick (.tmp 134) (.const (.bool true)) (.tmp 140))⟩]
def c6_r18 : List GOp := [⟨none, (some 16), (.assign (.const (.bool false)))⟩]
def c6_r19 : List GOp := [⟨none, (some 142), (.move (.tmp 4))⟩,
  ⟨none, (some 143), (.move (.tmp 4))⟩,
  ⟨none, (some 144), (.call { callee := (.builtin .len), args := #[(.tmp 143)], argTypes := #[24] })⟩,
  ⟨none, (some 145), (.call { callee := (.value (.func 11)), args := #[(.tmp 142), (.tmp 144)], argTypes := #[24, 3] })⟩,
  ⟨none, (some 23), (.assign (.tmp 145))⟩]
def c6_r20 : List GOp := [⟨none, (some 146), (.move (.tmp 19))⟩,
  ⟨none, (some 147), (.move (.tmp 146))⟩,
  ⟨(some (147, true)), (some 148), (.move (.tmp 5))⟩,
  ⟨(some (147, true)), (some 149), (.binOp .rem 3 (.tmp 148) (.const (.int .i64 4)) 3)⟩,
  ⟨(some (147, true)), (some 150), (.binOp .gtr 3 (.tmp 149) (.const (.int .i64 0)) 3)⟩,
  ⟨none, (some 151), (.pick (.tmp 147) (.tmp 150) (.const (.bool false)))⟩]
def c6_r21 : List GOp := [⟨none, (some 152), (.move (.tmp 22))⟩,
  ⟨none, (some 153), (.move (.tmp 22))⟩,
  ⟨none, (some 154), (.call { callee := (.builtin .len), args := #[(.tmp 153)], argTypes := #[24] })⟩,
  ⟨none, (some 155), (.call { callee := (.value (.func 11)), args := #[(.tmp 152), (.tmp 154)], argTypes := #[24, 3] })⟩,
  ⟨none, (some 23), (.assign (.tmp 155))⟩]
def c6_r22 : List GOp := [⟨none, (some 24), (.assign (.const (.int .i64 0)))⟩]
def c6_r23 : List GOp := [⟨none, (some 156), (.move (.tmp 24))⟩,
  ⟨none, (some 157), (.move (.tmp 6))⟩,
  ⟨none, (some 158), (.call { callee := (.builtin .len), args := #[(.tmp 157)], argTypes := #[25] })⟩,
  ⟨none, (some 159), (.binOp .lss 3 (.tmp 156) (.tmp 158) 3)⟩,
  ⟨none, (some 160), (.move (.tmp 159))⟩,
  ⟨(some (160, true)), (some 161), (.move (.tmp 24))⟩,
  ⟨(some (160, true)), (some 162), (.binOp .lss 3 (.tmp 161) (.const (.int .i64 2)) 3)⟩,
  ⟨none, (some 163), (.pick (.tmp 160) (.tmp 162) (.const (.bool false)))⟩]
def c6_r25 : List GOp := [⟨none, (some 166), (.move (.tmp 23))⟩,
  ⟨none, (some 167), (.move (.tmp 6))⟩,
  ⟨none, (some 168), (.move (.tmp 24))⟩,
  ⟨none, (some 169), (.indexAddr 25 (.tmp 167) (.tmp 168))⟩,
  ⟨none, (some 170), (.load 3 (.tmp 169))⟩,
  ⟨none, (some 171), (.move (.tmp 23))⟩,
  ⟨none, (some 172), (.call { callee := (.builtin .len), args := #[(.tmp 171)], argTypes := #[24] })⟩,
  ⟨none, (some 173), (.call { callee := (.value (.func 12)), args := #[(.tmp 170), (.tmp 172)], argTypes := #[3, 3] })⟩,
  ⟨none, (some 174), (.indexAddr 24 (.tmp 166) (.tmp 173))⟩,
  ⟨none, (some 175), (.load 5 (.tmp 174))⟩,
  ⟨none, (some 176), (.move (.tmp 7))⟩,
  ⟨none, (some 177), (.binOp .xor 5 (.tmp 175) (.tmp 176) 5)⟩,
  ⟨none, (some 178), (.indexAddr 24 (.tmp 166) (.tmp 173))⟩,
  ⟨none, none, (.store 5 (.tmp 178) (.tmp 177))⟩]
def c6_r24 : List GOp := [⟨none, (some 164), (.move (.tmp 24))⟩,
  ⟨none, (some 165), (.binOp .add 3 (.tmp 164) (.const (.int .i64 1)) 3)⟩,
  ⟨none, (some 24), (.assign (.tmp 165))⟩]
def c6_l1 : AC := (.seq (.seq (.reg c6_r23) (.cond (.tmp 163) .skip (.exit 2))) (.seq (.block 3 (.reg c6_r25)) (.reg c6_r24)))
def c6_r26 : List GOp := [⟨none, (some 179), (.move (.tmp 23))⟩,
  ⟨none, (some 180), (.move (.tmp 23))⟩,
  ⟨none, (some 181), (.call { callee := (.builtin .len), args := #[(.tmp 180)], argTypes := #[24] })⟩,
  ⟨none, (some 182), (.move (.tmp 5))⟩,
  ⟨none, (some 183), (.binOp .quo 3 (.tmp 182) (.const (.int .i64 4)) 3)⟩,
  ⟨none, (some 184), (.call { callee := (.value (.func 12)), args := #[(.tmp 183), (.const (.int .i64 30))], argTypes := #[3, 3] })⟩,
  ⟨none, (some 185), (.binOp .quo 3 (.tmp 184) (.const (.int .i64 28)) 3)⟩,
  ⟨none, (some 186), (.binOp .sub 3 (.tmp 181) (.tmp 185) 3)⟩,
  ⟨none, (some 187), (.slice 24 (.tmp 179) none (some (.tmp 186)) none)⟩,
  ⟨none, (some 23), (.assign (.tmp 187))⟩]
def c6_r27 : List GOp := [⟨none, (some 189), (.move (.tmp 23))⟩,
  ⟨none, (some 190), (.call { callee := (.value (.func 20)), args := #[(.tmp 189)], argTypes := #[24] })⟩,
  ⟨none, (some 188), (.move (.tmp 190))⟩,
  ⟨none, (some 191), (.extract (.tmp 188) 0)⟩,
  ⟨none, (some 192), (.extract (.tmp 188) 1)⟩,
  ⟨none, (some 25), (.alloc 47)⟩,
  ⟨none, none, (.store 47 (.tmp 25) (.tmp 191))⟩,
  ⟨none, (some 26), (.assign (.tmp 192))⟩]
def c6_r28 : List GOp := [⟨none, (some 194), (.move (.tmp 23))⟩,
  ⟨none, (some 195), (.call { callee := (.value (.func 24)), args := #[(.tmp 194)], argTypes := #[24] })⟩,
  ⟨none, (some 193), (.move (.tmp 195))⟩,
  ⟨none, (some 196), (.extract (.tmp 193) 0)⟩,
  ⟨none, (some 197), (.extract (.tmp 193) 1)⟩,
  ⟨none, (some 27), (.alloc 47)⟩,
  ⟨none, none, (.store 47 (.tmp 27) (.tmp 196))⟩,
  ⟨none, (some 28), (.assign (.tmp 197))⟩]
def c6_d29_ops : Array Oper := #[{ dst := (some 198), op := (.call { callee := (.value (.func 15)), args := #[], argTypes := #[] }), type := 4, pos := "law.go:96", after := #[], guard := none },
  { dst := (some 199), op := (.move (.tmp 198)), type := 4, pos := "law.go:96", after := #[⟨0, .data⟩, ⟨0, .chain⟩], guard := none },
  { dst := (some 200), op := (.load 47 (.tmp 25)), type := 47, pos := "law.go:96", after := #[⟨1, .guard⟩], guard := (some (1, true)) },
  { dst := (some 201), op := (.load 47 (.tmp 27)), type := 47, pos := "law.go:96", after := #[⟨1, .guard⟩], guard := (some (1, true)) },
  { dst := (some 202), op := (.call { callee := (.value (.func 21)), args := #[(.tmp 200), (.tmp 201)], argTypes := #[47, 47] }), type := 4, pos := "law.go:96", after := #[⟨2, .data⟩, ⟨3, .data⟩, ⟨1, .chain⟩, ⟨1, .guard⟩], guard := (some (1, true)) },
  { dst := (some 203), op := (.pick (.tmp 199) (.tmp 202) (.const (.bool false))), type := 4, pos := "law.go:96", after := #[⟨1, .data⟩, ⟨4, .data⟩], guard := none },
  { dst := (some 204), op := (.move (.tmp 203)), type := 4, pos := "law.go:96", after := #[⟨5, .data⟩, ⟨4, .chain⟩], guard := none },
  { dst := (some 205), op := (.move (.tmp 26)), type := 30, pos := "law.go:96", after := #[⟨6, .guard⟩], guard := (some (6, true)) },
  { dst := (some 206), op := (.binOp .eql 30 (.tmp 205) (.const (.int .i64 0)) 30), type := 4, pos := "law.go:96", after := #[⟨7, .data⟩, ⟨6, .guard⟩], guard := (some (6, true)) },
  { dst := (some 207), op := (.move (.tmp 28)), type := 4, pos := "law.go:96", after := #[⟨6, .guard⟩], guard := (some (6, true)) },
  { dst := (some 208), op := (.binOp .eql 4 (.tmp 206) (.tmp 207) 4), type := 4, pos := "law.go:96", after := #[⟨8, .data⟩, ⟨9, .data⟩, ⟨6, .guard⟩], guard := (some (6, true)) },
  { dst := (some 209), op := (.pick (.tmp 204) (.tmp 208) (.const (.bool false))), type := 4, pos := "law.go:96", after := #[⟨6, .data⟩, ⟨10, .data⟩], guard := none },
  { dst := (some 210), op := (.move (.tmp 209)), type := 4, pos := "law.go:96", after := #[⟨11, .data⟩, ⟨6, .chain⟩], guard := none },
  { dst := (some 211), op := (.move (.tmp 28)), type := 4, pos := "law.go:96", after := #[⟨12, .guard⟩], guard := (some (12, true)) },
  { dst := (some 212), op := (.move (.tmp 211)), type := 4, pos := "law.go:96", after := #[⟨13, .data⟩, ⟨12, .chain⟩, ⟨12, .guard⟩], guard := (some (12, true)) },
  { dst := (some 213), op := (.move (.tmp 26)), type := 30, pos := "law.go:96", after := #[⟨14, .guard⟩], guard := (some (14, false)) },
  { dst := (some 214), op := (.binOp .eql 30 (.tmp 213) (.const (.int .i64 2)) 30), type := 4, pos := "law.go:96", after := #[⟨15, .data⟩, ⟨14, .guard⟩], guard := (some (14, false)) },
  { dst := (some 215), op := (.pick (.tmp 212) (.const (.bool true)) (.tmp 214)), type := 4, pos := "law.go:96", after := #[⟨14, .data⟩, ⟨16, .data⟩, ⟨12, .guard⟩], guard := (some (12, true)) },
  { dst := (some 216), op := (.pick (.tmp 210) (.tmp 215) (.const (.bool false))), type := 4, pos := "law.go:96", after := #[⟨12, .data⟩, ⟨17, .data⟩], guard := none },
  { dst := (some 217), op := (.move (.tmp 216)), type := 4, pos := "law.go:96", after := #[⟨18, .data⟩, ⟨14, .chain⟩], guard := none },
  { dst := (some 218), op := (.load 47 (.tmp 17)), type := 47, pos := "law.go:96", after := #[⟨19, .guard⟩], guard := (some (19, true)) },
  { dst := (some 219), op := (.load 47 (.tmp 25)), type := 47, pos := "law.go:96", after := #[⟨19, .guard⟩], guard := (some (19, true)) },
  { dst := (some 220), op := (.call { callee := (.value (.func 25)), args := #[(.tmp 218), (.tmp 219)], argTypes := #[47, 47] }), type := 4, pos := "law.go:96", after := #[⟨20, .data⟩, ⟨21, .data⟩, ⟨19, .chain⟩, ⟨19, .guard⟩], guard := (some (19, true)) },
  { dst := (some 221), op := (.load 47 (.tmp 17)), type := 47, pos := "law.go:96", after := #[⟨19, .guard⟩], guard := (some (19, true)) },
  { dst := (some 222), op := (.load 47 (.tmp 27)), type := 47, pos := "law.go:96", after := #[⟨19, .guard⟩], guard := (some (19, true)) },
  { dst := (some 223), op := (.call { callee := (.value (.func 21)), args := #[(.tmp 221), (.tmp 222)], argTypes := #[47, 47] }), type := 4, pos := "law.go:96", after := #[⟨23, .data⟩, ⟨24, .data⟩, ⟨22, .chain⟩, ⟨19, .guard⟩], guard := (some (19, true)) },
  { dst := (some 224), op := (.binOp .eql 4 (.tmp 220) (.tmp 223) 4), type := 4, pos := "law.go:96", after := #[⟨22, .data⟩, ⟨25, .data⟩, ⟨19, .guard⟩], guard := (some (19, true)) },
  { dst := (some 225), op := (.pick (.tmp 217) (.tmp 224) (.const (.bool false))), type := 4, pos := "law.go:96", after := #[⟨19, .data⟩, ⟨26, .data⟩], guard := none },
  { dst := (some 16), op := (.assign (.tmp 225)), type := 4, pos := "law.go:96", after := #[⟨27, .data⟩, ⟨25, .chain⟩, ⟨0, .phase⟩, ⟨1, .phase⟩, ⟨2, .phase⟩, ⟨3, .phase⟩, ⟨4, .phase⟩, ⟨5, .phase⟩, ⟨6, .phase⟩, ⟨7, .phase⟩, ⟨8, .phase⟩, ⟨9, .phase⟩, ⟨10, .phase⟩, ⟨11, .phase⟩, ⟨12, .phase⟩, ⟨13, .phase⟩, ⟨14, .phase⟩, ⟨15, .phase⟩, ⟨16, .phase⟩, ⟨17, .phase⟩, ⟨18, .phase⟩, ⟨19, .phase⟩, ⟨20, .phase⟩, ⟨21, .phase⟩, ⟨22, .phase⟩, ⟨23, .phase⟩, ⟨24, .phase⟩, ⟨25, .phase⟩, ⟨26, .phase⟩, ⟨27, .phase⟩], guard := none }]
def c6_d29 : Code := .region 29 c6_d29_ops true
/-- corbel/corbellaw11.CallReps -/
def c6 : AC := (.seq (.reg c6_r0) (.seq (.reg c6_r1) (.seq (.seq (.reg c6_r2) (.cond (.tmp 36) (.seq (.reg c6_r3) (.reg c6_r4)) .skip)) (.seq (.reg c6_r5) (.seq (.seq (.reg c6_r6) (.block 0 (.loop c6_l0))) (.seq (.reg c6_r12) (.seq (.reg c6_r13) (.seq (.reg c6_r14) (.seq (.seq (.reg c6_r15) (.cond (.tmp 120) (.reg c6_r16) .skip)) (.seq (.seq (.reg c6_r17) (.cond (.tmp 141) (.seq (.reg c6_r18) .ret) .skip)) (.seq (.reg c6_r19) (.seq (.seq (.reg c6_r20) (.cond (.tmp 151) (.seq (.reg c6_r21) (.seq (.seq (.reg c6_r22) (.block 2 (.loop c6_l1))) (.reg c6_r26))) .skip)) (.seq (.reg c6_r27) (.seq (.reg c6_r28) (.seq (.raw c6_d29) .ret)))))))))))))))
theorem c6_eq : Try.f6.body.map comp = some c6 := by kernel_rfl
theorem c6_n : Try.f6.ntmps = 226 := by kernel_rfl
theorem c6_rs : Try.f6.results.toList = [.tmp 16] := by kernel_rfl
def c7_r0 : List GOp := [⟨none, (some 1), (.box 23 (.tmp 0))⟩,
  ⟨none, (some 2), (.alloc 27)⟩]
def c7_d1_ops : Array Oper := #[{ dst := (some 4), op := (.fieldAddr 23 (.tmp 1) 0), type := 0, pos := "hand.go:76", after := #[], guard := none },
  { dst := (some 5), op := (.load 3 (.tmp 4)), type := 3, pos := "hand.go:76", after := #[⟨0, .data⟩], guard := none },
  { dst := (some 6), op := (.call { callee := (.value (.func 12)), args := #[(.tmp 5), (.const (.int .i64 6))], argTypes := #[3, 3] }), type := 3, pos := "hand.go:76", after := #[⟨1, .data⟩], guard := none },
  { dst := (some 7), op := (.binOp .add 3 (.const (.int .i64 1)) (.tmp 6) 3), type := 3, pos := "hand.go:76", after := #[⟨2, .data⟩], guard := none },
  { dst := (some 8), op := (.fieldAddr 23 (.tmp 1) 1), type := 0, pos := "hand.go:76", after := #[], guard := none },
  { dst := (some 9), op := (.load 3 (.tmp 8)), type := 3, pos := "hand.go:76", after := #[⟨4, .data⟩], guard := none },
  { dst := (some 10), op := (.call { callee := (.value (.func 12)), args := #[(.tmp 9), (.const (.int .i64 5))], argTypes := #[3, 3] }), type := 3, pos := "hand.go:76", after := #[⟨5, .data⟩, ⟨2, .chain⟩], guard := none },
  { dst := (some 11), op := (.fieldAddr 23 (.tmp 1) 2), type := 0, pos := "hand.go:76", after := #[], guard := none },
  { dst := (some 12), op := (.load 3 (.tmp 11)), type := 3, pos := "hand.go:76", after := #[⟨7, .data⟩], guard := none },
  { dst := (some 13), op := (.call { callee := (.value (.func 12)), args := #[(.tmp 12), (.const (.int .i64 6))], argTypes := #[3, 3] }), type := 3, pos := "hand.go:76", after := #[⟨8, .data⟩, ⟨6, .chain⟩], guard := none },
  { dst := (some 14), op := (.binOp .add 3 (.const (.int .i64 1)) (.tmp 13) 3), type := 3, pos := "hand.go:76", after := #[⟨9, .data⟩], guard := none },
  { dst := (some 15), op := (.fieldAddr 23 (.tmp 1) 3), type := 0, pos := "hand.go:76", after := #[], guard := none },
  { dst := (some 16), op := (.load 3 (.tmp 15)), type := 3, pos := "hand.go:76", after := #[⟨11, .data⟩], guard := none },
  { dst := (some 17), op := (.call { callee := (.value (.func 12)), args := #[(.tmp 16), (.const (.int .i64 6))], argTypes := #[3, 3] }), type := 3, pos := "hand.go:76", after := #[⟨12, .data⟩, ⟨9, .chain⟩], guard := none },
  { dst := (some 18), op := (.build 27 #[(0, (.tmp 7)), (1, (.tmp 10)), (2, (.tmp 14)), (3, (.tmp 17))]), type := 27, pos := "hand.go:76", after := #[⟨3, .data⟩, ⟨6, .data⟩, ⟨10, .data⟩, ⟨13, .data⟩], guard := none },
  { dst := (some 3), op := (.alloc 27), type := 0, pos := "hand.go:76", after := #[], guard := none },
  { dst := none, op := (.store 27 (.tmp 3) (.tmp 18)), type := 0, pos := "hand.go:76", after := #[⟨15, .data⟩, ⟨14, .data⟩, ⟨13, .chain⟩, ⟨0, .phase⟩, ⟨1, .phase⟩, ⟨2, .phase⟩, ⟨3, .phase⟩, ⟨4, .phase⟩, ⟨5, .phase⟩, ⟨6, .phase⟩, ⟨7, .phase⟩, ⟨8, .phase⟩, ⟨9, .phase⟩, ⟨10, .phase⟩, ⟨11, .phase⟩, ⟨12, .phase⟩, ⟨13, .phase⟩, ⟨14, .phase⟩, ⟨15, .phase⟩], guard := none }]
def c7_d1 : Code := .region 1 c7_d1_ops true
def c7_r2 : List GOp := [⟨none, (some 19), (.fieldAddr 27 (.tmp 3) 0)⟩,
  ⟨none, (some 20), (.load 3 (.tmp 19))⟩]
def c7_r3 : List GOp := [⟨none, (some 22), (.binOp .eql 3 (.tmp 20) (.const (.int .i64 2)) 3)⟩,
  ⟨none, (some 21), (.assign (.tmp 22))⟩]
def c7_r4 : List GOp := [⟨none, (some 23), (.fieldAddr 23 (.tmp 1) 4)⟩,
  ⟨none, (some 24), (.load 3 (.tmp 23))⟩,
  ⟨none, (some 25), (.call { callee := (.value (.func 26)), args := #[(.tmp 24), (.const (.int .i64 32))], argTypes := #[3, 3] })⟩,
  ⟨none, (some 26), (.fieldAddr 27 (.tmp 3) 4)⟩,
  ⟨none, none, (.store 24 (.tmp 26) (.tmp 25))⟩]
def c7_r5 : List GOp := [⟨none, (some 28), (.binOp .eql 3 (.tmp 20) (.const (.int .i64 3)) 3)⟩,
  ⟨none, (some 27), (.assign (.tmp 28))⟩]
def c7_r6 : List GOp := [⟨none, (some 29), (.fieldAddr 23 (.tmp 1) 4)⟩,
  ⟨none, (some 30), (.load 3 (.tmp 29))⟩,
  ⟨none, (some 31), (.call { callee := (.value (.func 26)), args := #[(.tmp 30), (.const (.int .i64 128))], argTypes := #[3, 3] })⟩,
  ⟨none, (some 32), (.fieldAddr 27 (.tmp 3) 4)⟩,
  ⟨none, none, (.store 24 (.tmp 32) (.tmp 31))⟩]
def c7_r7 : List GOp := [⟨none, (some 33), (.fieldAddr 23 (.tmp 1) 2)⟩,
  ⟨none, (some 34), (.load 3 (.tmp 33))⟩,
  ⟨none, (some 35), (.call { callee := (.value (.func 12)), args := #[(.tmp 34), (.const (.int .i64 30))], argTypes := #[3, 3] })⟩,
  ⟨none, (some 36), (.binOp .add 3 (.const (.int .i64 1)) (.tmp 35) 3)⟩,
  ⟨none, (some 37), (.fieldAddr 27 (.tmp 3) 2)⟩,
  ⟨none, none, (.store 3 (.tmp 37) (.tmp 36))⟩]
def c7_r8 : List GOp := [⟨none, (some 38), (.fieldAddr 23 (.tmp 1) 5)⟩,
  ⟨none, (some 39), (.load 3 (.tmp 38))⟩,
  ⟨none, (some 40), (.call { callee := (.value (.func 12)), args := #[(.tmp 39), (.const (.int .i64 30))], argTypes := #[3, 3] })⟩]
def c7_r9 : List GOp := [⟨none, (some 42), (.binOp .eql 3 (.tmp 40) (.const (.int .i64 24)) 3)⟩,
  ⟨none, (some 41), (.assign (.tmp 42))⟩]
def c7_r10 : List GOp := [⟨none, (some 43), (.fieldAddr 23 (.tmp 1) 5)⟩,
  ⟨none, (some 44), (.load 3 (.tmp 43))⟩,
  ⟨none, (some 45), (.binOp .quo 3 (.tmp 44) (.const (.int .i64 30)) 3)⟩,
  ⟨none, (some 46), (.call { callee := (.value (.func 12)), args := #[(.tmp 45), (.const (.int .i64 9))], argTypes := #[3, 3] })⟩,
  ⟨none, (some 47), (.binOp .sub 3 (.tmp 46) (.const (.int .i64 1)) 3)⟩,
  ⟨none, (some 48), (.fieldAddr 27 (.tmp 3) 0)⟩,
  ⟨none, none, (.store 3 (.tmp 48) (.tmp 47))⟩]
def c7_r11 : List GOp := [⟨none, (some 50), (.binOp .eql 3 (.tmp 40) (.const (.int .i64 25)) 3)⟩,
  ⟨none, (some 49), (.assign (.tmp 50))⟩]
def c7_r12 : List GOp := [⟨none, (some 51), (.fieldAddr 23 (.tmp 1) 1)⟩,
  ⟨none, (some 52), (.load 3 (.tmp 51))⟩,
  ⟨none, (some 53), (.fieldAddr 27 (.tmp 3) 1)⟩,
  ⟨none, none, (.store 3 (.tmp 53) (.tmp 52))⟩]
def c7_r13 : List GOp := [⟨none, (some 55), (.binOp .eql 3 (.tmp 40) (.const (.int .i64 26)) 3)⟩,
  ⟨none, (some 54), (.assign (.tmp 55))⟩]
def c7_r14 : List GOp := [⟨none, (some 56), (.fieldAddr 23 (.tmp 1) 2)⟩,
  ⟨none, (some 57), (.load 3 (.tmp 56))⟩,
  ⟨none, (some 58), (.fieldAddr 27 (.tmp 3) 2)⟩,
  ⟨none, none, (.store 3 (.tmp 58) (.tmp 57))⟩]
def c7_r15 : List GOp := [⟨none, (some 60), (.binOp .eql 3 (.tmp 40) (.const (.int .i64 27)) 3)⟩,
  ⟨none, (some 59), (.assign (.tmp 60))⟩]
def c7_r16 : List GOp := [⟨none, (some 61), (.fieldAddr 23 (.tmp 1) 3)⟩,
  ⟨none, (some 62), (.load 3 (.tmp 61))⟩,
  ⟨none, (some 63), (.fieldAddr 27 (.tmp 3) 3)⟩,
  ⟨none, none, (.store 3 (.tmp 63) (.tmp 62))⟩]
def c7_r17 : List GOp := [⟨none, (some 65), (.binOp .eql 3 (.tmp 40) (.const (.int .i64 28)) 3)⟩,
  ⟨none, (some 64), (.assign (.tmp 65))⟩]
def c7_d18_ops : Array Oper := #[{ dst := (some 66), op := (.fieldAddr 23 (.tmp 1) 4), type := 0, pos := "hand.go:94", after := #[], guard := none },
  { dst := (some 67), op := (.load 3 (.tmp 66)), type := 3, pos := "hand.go:94", after := #[⟨0, .data⟩], guard := none },
  { dst := (some 68), op := (.fieldAddr 23 (.tmp 1) 5), type := 0, pos := "hand.go:94", after := #[], guard := none },
  { dst := (some 69), op := (.load 3 (.tmp 68)), type := 3, pos := "hand.go:94", after := #[⟨2, .data⟩], guard := none },
  { dst := (some 70), op := (.binOp .quo 3 (.tmp 69) (.const (.int .i64 30)) 3), type := 3, pos := "hand.go:94", after := #[⟨3, .data⟩], guard := none },
  { dst := (some 71), op := (.call { callee := (.value (.func 12)), args := #[(.tmp 70), (.const (.int .i64 140))], argTypes := #[3, 3] }), type := 3, pos := "hand.go:94", after := #[⟨4, .data⟩], guard := none },
  { dst := (some 72), op := (.call { callee := (.value (.func 26)), args := #[(.tmp 67), (.tmp 71)], argTypes := #[3, 3] }), type := 24, pos := "hand.go:94", after := #[⟨1, .data⟩, ⟨5, .data⟩, ⟨5, .chain⟩], guard := none },
  { dst := (some 73), op := (.fieldAddr 27 (.tmp 3) 4), type := 0, pos := "hand.go:94", after := #[⟨0, .phase⟩, ⟨1, .phase⟩, ⟨2, .phase⟩, ⟨3, .phase⟩, ⟨4, .phase⟩, ⟨5, .phase⟩, ⟨6, .phase⟩], guard := none },
  { dst := none, op := (.store 24 (.tmp 73) (.tmp 72)), type := 0, pos := "hand.go:94", after := #[⟨7, .data⟩, ⟨6, .data⟩, ⟨6, .chain⟩, ⟨0, .phase⟩, ⟨1, .phase⟩, ⟨2, .phase⟩, ⟨3, .phase⟩, ⟨4, .phase⟩, ⟨5, .phase⟩, ⟨6, .phase⟩], guard := none }]
def c7_d18 : Code := .region 18 c7_d18_ops true
def c7_r19 : List GOp := [⟨none, (some 75), (.binOp .eql 3 (.tmp 40) (.const (.int .i64 29)) 3)⟩,
  ⟨none, (some 74), (.assign (.tmp 75))⟩]
def c7_r20 : List GOp := [⟨none, (some 76), (.fieldAddr 23 (.tmp 1) 1)⟩,
  ⟨none, (some 77), (.load 3 (.tmp 76))⟩,
  ⟨none, (some 78), (.call { callee := (.value (.func 12)), args := #[(.tmp 77), (.const (.int .i64 43))], argTypes := #[3, 3] })⟩,
  ⟨none, (some 79), (.fieldAddr 27 (.tmp 3) 1)⟩,
  ⟨none, none, (.store 3 (.tmp 79) (.tmp 78))⟩]
def c7_r21 : List GOp := [⟨none, (some 80), (.load 27 (.tmp 3))⟩,
  ⟨none, none, (.store 27 (.tmp 2) (.tmp 80))⟩]
/-- corbel/corbelhand.Req -/
def c7 : AC := (.seq (.reg c7_r0) (.seq (.raw c7_d1) (.seq (.seq (.reg c7_r2) (.block 0 (.seq (.reg c7_r3) (.cond (.tmp 21) (.reg c7_r4) (.seq (.reg c7_r5) (.cond (.tmp 27) (.seq (.reg c7_r6) (.reg c7_r7)) .skip)))))) (.seq (.seq (.reg c7_r8) (.block 1 (.seq (.reg c7_r9) (.cond (.tmp 41) (.reg c7_r10) (.seq (.reg c7_r11) (.cond (.tmp 49) (.reg c7_r12) (.seq (.reg c7_r13) (.cond (.tmp 54) (.reg c7_r14) (.seq (.reg c7_r15) (.cond (.tmp 59) (.reg c7_r16) (.seq (.reg c7_r17) (.cond (.tmp 64) (.raw c7_d18) (.seq (.reg c7_r19) (.cond (.tmp 74) (.reg c7_r20) .skip)))))))))))))) (.seq (.reg c7_r21) .ret)))))
theorem c7_eq : Try.f7.body.map comp = some c7 := by kernel_rfl
theorem c7_n : Try.f7.ntmps = 81 := by kernel_rfl
theorem c7_rs : Try.f7.results.toList = [.cell 2 27] := by kernel_rfl
def c8_r0 : List GOp := [⟨none, (some 1), (.box 27 (.tmp 0))⟩,
  ⟨none, (some 2), (.assign (.const (.bool false)))⟩]
def c8_r1 : List GOp := [⟨none, (some 3), (.fieldAddr 27 (.tmp 1) 0)⟩,
  ⟨none, (some 4), (.load 3 (.tmp 3))⟩,
  ⟨none, (some 5), (.binOp .geq 3 (.tmp 4) (.const (.int .i64 1)) 3)⟩,
  ⟨none, (some 6), (.move (.tmp 5))⟩,
  ⟨(some (6, true)), (some 7), (.fieldAddr 27 (.tmp 1) 0)⟩,
  ⟨(some (6, true)), (some 8), (.load 3 (.tmp 7))⟩,
  ⟨(some (6, true)), (some 9), (.binOp .leq 3 (.tmp 8) (.const (.int .i64 6)) 3)⟩,
  ⟨none, (some 10), (.pick (.tmp 6) (.tmp 9) (.const (.bool false)))⟩,
  ⟨none, (some 11), (.move (.tmp 10))⟩,
  ⟨(some (11, true)), (some 12), (.fieldAddr 27 (.tmp 1) 1)⟩,
  ⟨(some (11, true)), (some 13), (.load 3 (.tmp 12))⟩,
  ⟨(some (11, true)), (some 14), (.binOp .geq 3 (.tmp 13) (.const (.int .i64 0)) 3)⟩,
  ⟨none, (some 15), (.pick (.tmp 11) (.tmp 14) (.const (.bool false)))⟩,
  ⟨none, (some 16), (.move (.tmp 15))⟩,
  ⟨(some (16, true)), (some 17), (.fieldAddr 27 (.tmp 1) 1)⟩,
  ⟨(some (16, true)), (some 18), (.load 3 (.tmp 17))⟩,
  ⟨(some (16, true)), (some 19), (.binOp .leq 3 (.tmp 18) (.const (.int .i64 65535)) 3)⟩,
  ⟨none, (some 20), (.pick (.tmp 16) (.tmp 19) (.const (.bool false)))⟩,
  ⟨none, (some 21), (.move (.tmp 20))⟩,
  ⟨(some (21, true)), (some 22), (.fieldAddr 27 (.tmp 1) 2)⟩,
  ⟨(some (21, true)), (some 23), (.load 3 (.tmp 22))⟩,
  ⟨(some (21, true)), (some 24), (.binOp .geq 3 (.tmp 23) (.const (.int .i64 0)) 3)⟩,
  ⟨none, (some 25), (.pick (.tmp 21) (.tmp 24) (.const (.bool false)))⟩,
  ⟨none, (some 26), (.move (.tmp 25))⟩,
  ⟨(some (26, true)), (some 27), (.fieldAddr 27 (.tmp 1) 2)⟩,
  ⟨(some (26, true)), (some 28), (.load 3 (.tmp 27))⟩,
  ⟨(some (26, true)), (some 29), (.binOp .leq 3 (.tmp 28) (.const (.int .i64 1099511627776)) 3)⟩,
  ⟨none, (some 30), (.pick (.tmp 26) (.tmp 29) (.const (.bool false)))⟩,
  ⟨none, (some 31), (.move (.tmp 30))⟩,
  ⟨(some (31, true)), (some 32), (.fieldAddr 27 (.tmp 1) 3)⟩,
  ⟨(some (31, true)), (some 33), (.load 3 (.tmp 32))⟩,
  ⟨(some (31, true)), (some 34), (.binOp .geq 3 (.tmp 33) (.const (.int .i64 0)) 3)⟩,
  ⟨none, (some 35), (.pick (.tmp 31) (.tmp 34) (.const (.bool false)))⟩,
  ⟨none, (some 36), (.move (.tmp 35))⟩,
  ⟨(some (36, true)), (some 37), (.fieldAddr 27 (.tmp 1) 3)⟩,
  ⟨(some (36, true)), (some 38), (.load 3 (.tmp 37))⟩,
  ⟨(some (36, true)), (some 39), (.binOp .leq 3 (.tmp 38) (.const (.int .i64 255)) 3)⟩,
  ⟨none, (some 40), (.pick (.tmp 36) (.tmp 39) (.const (.bool false)))⟩,
  ⟨none, (some 41), (.move (.tmp 40))⟩,
  ⟨(some (41, true)), (some 42), (.fieldAddr 27 (.tmp 1) 4)⟩,
  ⟨(some (41, true)), (some 43), (.load 24 (.tmp 42))⟩,
  ⟨(some (41, true)), (some 44), (.call { callee := (.builtin .len), args := #[(.tmp 43)], argTypes := #[24] })⟩,
  ⟨(some (41, true)), (some 45), (.binOp .leq 3 (.tmp 44) (.const (.int .i64 128)) 3)⟩,
  ⟨none, (some 46), (.pick (.tmp 41) (.tmp 45) (.const (.bool false)))⟩,
  ⟨none, (some 2), (.assign (.tmp 46))⟩]
/-- corbel/corbelref7.RightReq -/
def c8 : AC := (.seq (.reg c8_r0) (.seq (.reg c8_r1) .ret))
theorem c8_eq : Try.f8.body.map comp = some c8 := by kernel_rfl
theorem c8_n : Try.f8.ntmps = 47 := by kernel_rfl
theorem c8_rs : Try.f8.results.toList = [.tmp 2] := by kernel_rfl
def c9_r0 : List GOp := [⟨none, (some 1), (.box 27 (.tmp 0))⟩,
  ⟨none, (some 2), (.assign (.const (.slice none 0 0)))⟩,
  ⟨none, (some 3), (.assign (.const (.int .i64 0)))⟩]
def c9_r1 : List GOp := [⟨none, (some 4), (.fieldAddr 27 (.tmp 1) 0)⟩,
  ⟨none, (some 5), (.load 3 (.tmp 4))⟩,
  ⟨none, (some 6), (.call { callee := (.value (.func 27)), args := #[(.tmp 5), (.const (.int .i64 1)), (.const (.int .i64 6))], argTypes := #[3, 3, 3] })⟩,
  ⟨none, (some 7), (.unOp .not 4 (.tmp 6))⟩,
  ⟨none, (some 8), (.move (.tmp 7))⟩,
  ⟨(some (8, false)), (some 9), (.fieldAddr 27 (.tmp 1) 1)⟩,
  ⟨(some (8, false)), (some 10), (.load 3 (.tmp 9))⟩,
  ⟨(some (8, false)), (some 11), (.call { callee := (.value (.func 27)), args := #[(.tmp 10), (.const (.int .i64 0)), (.const (.int .i64 65535))], argTypes := #[3, 3, 3] })⟩,
  ⟨(some (8, false)), (some 12), (.unOp .not 4 (.tmp 11))⟩,
  ⟨none, (some 13), (.pick (.tmp 8) (.const (.bool true)) (.tmp 12))⟩,
  ⟨none, (some 14), (.move (.tmp 13))⟩,
  ⟨(some (14, false)), (some 15), (.fieldAddr 27 (.tmp 1) 2)⟩,
  ⟨(some (14, false)), (some 16), (.load 3 (.tmp 15))⟩,
  ⟨(some (14, false)), (some 17), (.call { callee := (.value (.func 27)), args := #[(.tmp 16), (.const (.int .i64 0)), (.const (.int .i64 1099511627776))], argTypes := #[3, 3, 3] })⟩,
  ⟨(some (14, false)), (some 18), (.unOp .not 4 (.tmp 17))⟩,
  ⟨none, (some 19), (.pick (.tmp 14) (.const (.bool true)) (.tmp 18))⟩,
  ⟨none, (some 20), (.move (.tmp 19))⟩,
  ⟨(some (20, false)), (some 21), (.fieldAddr 27 (.tmp 1) 3)⟩,
  ⟨(some (20, false)), (some 22), (.load 3 (.tmp 21))⟩,
  ⟨(some (20, false)), (some 23), (.call { callee := (.value (.func 27)), args := #[(.tmp 22), (.const (.int .i64 0)), (.const (.int .i64 255))], argTypes := #[3, 3, 3] })⟩,
  ⟨(some (20, false)), (some 24), (.unOp .not 4 (.tmp 23))⟩,
  ⟨none, (some 25), (.pick (.tmp 20) (.const (.bool true)) (.tmp 24))⟩,
  ⟨none, (some 26), (.move (.tmp 25))⟩,
  ⟨(some (26, false)), (some 27), (.fieldAddr 27 (.tmp 1) 4)⟩,
  ⟨(some (26, false)), (some 28), (.load 24 (.tmp 27))⟩,
  ⟨(some (26, false)), (some 29), (.call { callee := (.builtin .len), args := #[(.tmp 28)], argTypes := #[24] })⟩,
  ⟨(some (26, false)), (some 30), (.binOp .gtr 3 (.tmp 29) (.const (.int .i64 128)) 3)⟩,
  ⟨none, (some 31), (.pick (.tmp 26) (.const (.bool true)) (.tmp 30))⟩]
def c9_r2 : List GOp := [⟨none, (some 2), (.assign (.const (.slice none 0 0)))⟩,
  ⟨none, (some 3), (.assign (.const (.int .i64 1)))⟩]
def c9_d3_ops : Array Oper := #[{ dst := (some 32), op := (.fieldAddr 27 (.tmp 1) 0), type := 0, pos := "call.go:39", after := #[], guard := none },
  { dst := (some 33), op := (.load 3 (.tmp 32)), type := 3, pos := "call.go:39", after := #[⟨0, .data⟩], guard := none },
  { dst := (some 34), op := (.call { callee := (.value (.func 29)), args := #[(.tmp 33), (.const (.int .i64 1))], argTypes := #[3, 3] }), type := 24, pos := "call.go:39", after := #[⟨1, .data⟩], guard := none },
  { dst := (some 35), op := (.fieldAddr 27 (.tmp 1) 1), type := 0, pos := "call.go:39", after := #[], guard := none },
  { dst := (some 36), op := (.load 3 (.tmp 35)), type := 3, pos := "call.go:39", after := #[⟨3, .data⟩], guard := none },
  { dst := (some 37), op := (.call { callee := (.value (.func 29)), args := #[(.tmp 36), (.const (.int .i64 2))], argTypes := #[3, 3] }), type := 24, pos := "call.go:39", after := #[⟨4, .data⟩, ⟨2, .chain⟩], guard := none },
  { dst := (some 38), op := (.fieldAddr 27 (.tmp 1) 2), type := 0, pos := "call.go:39", after := #[], guard := none },
  { dst := (some 39), op := (.load 3 (.tmp 38)), type := 3, pos := "call.go:39", after := #[⟨6, .data⟩], guard := none },
  { dst := (some 40), op := (.call { callee := (.value (.func 29)), args := #[(.tmp 39), (.const (.int .i64 6))], argTypes := #[3, 3] }), type := 24, pos := "call.go:39", after := #[⟨7, .data⟩, ⟨5, .chain⟩], guard := none },
  { dst := (some 41), op := (.fieldAddr 27 (.tmp 1) 3), type := 0, pos := "call.go:39", after := #[], guard := none },
  { dst := (some 42), op := (.load 3 (.tmp 41)), type := 3, pos := "call.go:39", after := #[⟨9, .data⟩], guard := none },
  { dst := (some 43), op := (.call { callee := (.value (.func 29)), args := #[(.tmp 42), (.const (.int .i64 1))], argTypes := #[3, 3] }), type := 24, pos := "call.go:39", after := #[⟨10, .data⟩, ⟨8, .chain⟩], guard := none },
  { dst := (some 44), op := (.fieldAddr 27 (.tmp 1) 4), type := 0, pos := "call.go:39", after := #[], guard := none },
  { dst := (some 45), op := (.load 24 (.tmp 44)), type := 24, pos := "call.go:39", after := #[⟨12, .data⟩], guard := none },
  { dst := (some 46), op := (.call { callee := (.builtin .len), args := #[(.tmp 45)], argTypes := #[24] }), type := 3, pos := "call.go:39", after := #[⟨13, .data⟩], guard := none },
  { dst := (some 47), op := (.call { callee := (.value (.func 29)), args := #[(.tmp 46), (.const (.int .i64 2))], argTypes := #[3, 3] }), type := 24, pos := "call.go:39", after := #[⟨14, .data⟩, ⟨11, .chain⟩], guard := none },
  { dst := (some 48), op := (.fieldAddr 27 (.tmp 1) 4), type := 0, pos := "call.go:39", after := #[], guard := none },
  { dst := (some 49), op := (.load 24 (.tmp 48)), type := 24, pos := "call.go:39", after := #[⟨16, .data⟩], guard := none },
  { dst := (some 50), op := (.buildSlice 88 6 #[(0, (.tmp 34)), (1, (.tmp 37)), (2, (.tmp 40)), (3, (.tmp 43)), (4, (.tmp 47)), (5, (.tmp 49))]), type := 88, pos := "call.go:39", after := #[⟨2, .data⟩, ⟨5, .data⟩, ⟨8, .data⟩, ⟨11, .data⟩, ⟨15, .data⟩, ⟨17, .data⟩], guard := none },
  { dst := (some 51), op := (.call { callee := (.value (.func 28)), args := #[(.tmp 50)], argTypes := #[88] }), type := 24, pos := "call.go:39", after := #[⟨18, .data⟩, ⟨15, .chain⟩], guard := none },
  { dst := (some 2), op := (.assign (.tmp 51)), type := 24, pos := "call.go:39", after := #[⟨19, .data⟩, ⟨19, .chain⟩, ⟨0, .phase⟩, ⟨1, .phase⟩, ⟨2, .phase⟩, ⟨3, .phase⟩, ⟨4, .phase⟩, ⟨5, .phase⟩, ⟨6, .phase⟩, ⟨7, .phase⟩, ⟨8, .phase⟩, ⟨9, .phase⟩, ⟨10, .phase⟩, ⟨11, .phase⟩, ⟨12, .phase⟩, ⟨13, .phase⟩, ⟨14, .phase⟩, ⟨15, .phase⟩, ⟨16, .phase⟩, ⟨17, .phase⟩, ⟨18, .phase⟩, ⟨19, .phase⟩], guard := none },
  { dst := (some 3), op := (.assign (.const (.int .i64 0))), type := 30, pos := "call.go:39", after := #[⟨20, .chain⟩, ⟨0, .phase⟩, ⟨1, .phase⟩, ⟨2, .phase⟩, ⟨3, .phase⟩, ⟨4, .phase⟩, ⟨5, .phase⟩, ⟨6, .phase⟩, ⟨7, .phase⟩, ⟨8, .phase⟩, ⟨9, .phase⟩, ⟨10, .phase⟩, ⟨11, .phase⟩, ⟨12, .phase⟩, ⟨13, .phase⟩, ⟨14, .phase⟩, ⟨15, .phase⟩, ⟨16, .phase⟩, ⟨17, .phase⟩, ⟨18, .phase⟩, ⟨19, .phase⟩, ⟨20, .phase⟩], guard := none }]
def c9_d3 : Code := .region 3 c9_d3_ops true
/-- corbel/call.LayReq -/
def c9 : AC := (.seq (.reg c9_r0) (.seq (.seq (.reg c9_r1) (.cond (.tmp 31) (.seq (.reg c9_r2) .ret) .skip)) (.seq (.raw c9_d3) .ret)))
theorem c9_eq : Try.f9.body.map comp = some c9 := by kernel_rfl
theorem c9_n : Try.f9.ntmps = 52 := by kernel_rfl
theorem c9_rs : Try.f9.results.toList = [.tmp 2, .tmp 3] := by kernel_rfl
def c10_r0 : List GOp := [⟨none, (some 1), (.box 27 (.tmp 0))⟩,
  ⟨none, (some 2), (.assign (.const (.slice none 0 0)))⟩]
def c10_d1_ops : Array Oper := #[{ dst := (some 4), op := (.fieldAddr 27 (.tmp 1) 0), type := 0, pos := "ref.go:354", after := #[], guard := none },
  { dst := (some 5), op := (.load 3 (.tmp 4)), type := 3, pos := "ref.go:354", after := #[⟨0, .data⟩], guard := none },
  { dst := (some 6), op := (.call { callee := (.value (.func 30)), args := #[(.tmp 5), (.const (.int .i64 1))], argTypes := #[3, 3] }), type := 24, pos := "ref.go:354", after := #[⟨1, .data⟩], guard := none },
  { dst := (some 7), op := (.fieldAddr 27 (.tmp 1) 1), type := 0, pos := "ref.go:354", after := #[], guard := none },
  { dst := (some 8), op := (.load 3 (.tmp 7)), type := 3, pos := "ref.go:354", after := #[⟨3, .data⟩], guard := none },
  { dst := (some 9), op := (.call { callee := (.value (.func 30)), args := #[(.tmp 8), (.const (.int .i64 2))], argTypes := #[3, 3] }), type := 24, pos := "ref.go:354", after := #[⟨4, .data⟩, ⟨2, .chain⟩], guard := none },
  { dst := (some 10), op := (.call { callee := (.builtin .append), args := #[(.tmp 6), (.tmp 9)], argTypes := #[24, 24] }), type := 24, pos := "ref.go:354", after := #[⟨2, .data⟩, ⟨5, .data⟩, ⟨5, .chain⟩], guard := none },
  { dst := (some 3), op := (.assign (.tmp 10)), type := 24, pos := "ref.go:354", after := #[⟨6, .data⟩, ⟨6, .chain⟩, ⟨0, .phase⟩, ⟨1, .phase⟩, ⟨2, .phase⟩, ⟨3, .phase⟩, ⟨4, .phase⟩, ⟨5, .phase⟩, ⟨6, .phase⟩], guard := none }]
def c10_d1 : Code := .region 1 c10_d1_ops true
def c10_r2 : List GOp := [⟨none, (some 11), (.move (.tmp 3))⟩,
  ⟨none, (some 12), (.fieldAddr 27 (.tmp 1) 2)⟩,
  ⟨none, (some 13), (.load 3 (.tmp 12))⟩,
  ⟨none, (some 14), (.call { callee := (.value (.func 30)), args := #[(.tmp 13), (.const (.int .i64 6))], argTypes := #[3, 3] })⟩,
  ⟨none, (some 15), (.call { callee := (.builtin .append), args := #[(.tmp 11), (.tmp 14)], argTypes := #[24, 24] })⟩,
  ⟨none, (some 3), (.assign (.tmp 15))⟩]
def c10_r3 : List GOp := [⟨none, (some 16), (.move (.tmp 3))⟩,
  ⟨none, (some 17), (.fieldAddr 27 (.tmp 1) 3)⟩,
  ⟨none, (some 18), (.load 3 (.tmp 17))⟩,
  ⟨none, (some 19), (.call { callee := (.value (.func 30)), args := #[(.tmp 18), (.const (.int .i64 1))], argTypes := #[3, 3] })⟩,
  ⟨none, (some 20), (.call { callee := (.builtin .append), args := #[(.tmp 16), (.tmp 19)], argTypes := #[24, 24] })⟩,
  ⟨none, (some 3), (.assign (.tmp 20))⟩]
def c10_r4 : List GOp := [⟨none, (some 21), (.move (.tmp 3))⟩,
  ⟨none, (some 22), (.fieldAddr 27 (.tmp 1) 4)⟩,
  ⟨none, (some 23), (.load 24 (.tmp 22))⟩,
  ⟨none, (some 24), (.call { callee := (.builtin .len), args := #[(.tmp 23)], argTypes := #[24] })⟩,
  ⟨none, (some 25), (.call { callee := (.value (.func 30)), args := #[(.tmp 24), (.const (.int .i64 2))], argTypes := #[3, 3] })⟩,
  ⟨none, (some 26), (.call { callee := (.builtin .append), args := #[(.tmp 21), (.tmp 25)], argTypes := #[24, 24] })⟩,
  ⟨none, (some 3), (.assign (.tmp 26))⟩]
def c10_r5 : List GOp := [⟨none, (some 27), (.move (.tmp 3))⟩,
  ⟨none, (some 28), (.fieldAddr 27 (.tmp 1) 4)⟩,
  ⟨none, (some 29), (.load 24 (.tmp 28))⟩,
  ⟨none, (some 30), (.call { callee := (.builtin .append), args := #[(.tmp 27), (.tmp 29)], argTypes := #[24, 24] })⟩,
  ⟨none, (some 2), (.assign (.tmp 30))⟩]
/-- corbel/corbelref7.LayReq -/
def c10 : AC := (.seq (.reg c10_r0) (.seq (.raw c10_d1) (.seq (.reg c10_r2) (.seq (.reg c10_r3) (.seq (.reg c10_r4) (.seq (.reg c10_r5) .ret))))))
theorem c10_eq : Try.f10.body.map comp = some c10 := by kernel_rfl
theorem c10_n : Try.f10.ntmps = 31 := by kernel_rfl
theorem c10_rs : Try.f10.results.toList = [.tmp 2] := by kernel_rfl
def c11_r0 : List GOp := [⟨none, (some 4), (.assign (.const (.slice none 0 0)))⟩]
def c11_r1 : List GOp := [⟨none, (some 5), (.buildSlice 24 0 #[])⟩,
  ⟨none, (some 6), (.move (.tmp 0))⟩,
  ⟨none, (some 7), (.move (.tmp 0))⟩,
  ⟨none, (some 8), (.call { callee := (.builtin .len), args := #[(.tmp 7)], argTypes := #[24] })⟩,
  ⟨none, (some 9), (.move (.tmp 1))⟩,
  ⟨none, (some 10), (.call { callee := (.builtin .min), args := #[(.tmp 8), (.tmp 9)], argTypes := #[3, 3] })⟩,
  ⟨none, (some 11), (.slice 24 (.tmp 6) none (some (.tmp 10)) none)⟩,
  ⟨none, (some 12), (.call { callee := (.builtin .append), args := #[(.tmp 5), (.tmp 11)], argTypes := #[24, 24] })⟩,
  ⟨none, (some 4), (.assign (.tmp 12))⟩]
/-- corbel/corbelhand.Few -/
def c11 : AC := (.seq (.reg c11_r0) (.seq (.reg c11_r1) .ret))
theorem c11_eq : Try.f11.body.map comp = some c11 := by kernel_rfl
theorem c11_n : Try.f11.ntmps = 13 := by kernel_rfl
theorem c11_rs : Try.f11.results.toList = [.tmp 4] := by kernel_rfl
def c12_r0 : List GOp := [⟨none, (some 4), (.assign (.const (.int .i64 0)))⟩]
def c12_r1 : List GOp := [⟨none, (some 5), (.move (.tmp 0))⟩,
  ⟨none, (some 6), (.move (.tmp 1))⟩,
  ⟨none, (some 7), (.binOp .rem 3 (.tmp 5) (.tmp 6) 3)⟩,
  ⟨none, (some 0), (.assign (.tmp 7))⟩]
def c12_r2 : List GOp := [⟨none, (some 8), (.move (.tmp 0))⟩,
  ⟨none, (some 9), (.binOp .lss 3 (.tmp 8) (.const (.int .i64 0)) 3)⟩]
def c12_r3 : List GOp := [⟨none, (some 10), (.move (.tmp 0))⟩,
  ⟨none, (some 11), (.move (.tmp 1))⟩,
  ⟨none, (some 12), (.binOp .add 3 (.tmp 10) (.tmp 11) 3)⟩,
  ⟨none, (some 0), (.assign (.tmp 12))⟩]
def c12_r4 : List GOp := [⟨none, (some 13), (.move (.tmp 0))⟩,
  ⟨none, (some 4), (.assign (.tmp 13))⟩]
/-- corbel/corbelhand.Pick -/
def c12 : AC := (.seq (.reg c12_r0) (.seq (.reg c12_r1) (.seq (.seq (.reg c12_r2) (.cond (.tmp 9) (.reg c12_r3) .skip)) (.seq (.reg c12_r4) .ret))))
theorem c12_eq : Try.f12.body.map comp = some c12 := by kernel_rfl
theorem c12_n : Try.f12.ntmps = 14 := by kernel_rfl
theorem c12_rs : Try.f12.results.toList = [.tmp 4] := by kernel_rfl
def c13_r0 : List GOp := [⟨none, (some 2), (.alloc 27)⟩,
  ⟨none, (some 3), (.assign (.const (.int .i64 0)))⟩]
def c13_r1 : List GOp := [⟨none, (some 8), (.move (.tmp 0))⟩,
  ⟨none, (some 9), (.call { callee := (.value (.func 31)), args := #[(.tmp 8)], argTypes := #[24] })⟩,
  ⟨none, (some 10), (.build 71 #[(0, (.tmp 9))])⟩,
  ⟨none, (some 11), (.box 71 (.tmp 10))⟩,
  ⟨none, (some 4), (.assign (.tmp 11))⟩]
def c13_r2 : List GOp := [⟨none, (some 12), (.move (.tmp 4))⟩,
  ⟨none, (some 13), (.call { callee := (.value (.func 32)), args := #[(.tmp 12), (.const (.int .i64 1))], argTypes := #[68, 3] })⟩,
  ⟨none, (some 14), (.move (.tmp 4))⟩,
  ⟨none, (some 15), (.call { callee := (.value (.func 32)), args := #[(.tmp 14), (.const (.int .i64 2))], argTypes := #[68, 3] })⟩,
  ⟨none, (some 16), (.move (.tmp 4))⟩,
  ⟨none, (some 17), (.call { callee := (.value (.func 32)), args := #[(.tmp 16), (.const (.int .i64 6))], argTypes := #[68, 3] })⟩,
  ⟨none, (some 18), (.move (.tmp 4))⟩,
  ⟨none, (some 19), (.call { callee := (.value (.func 32)), args := #[(.tmp 18), (.const (.int .i64 1))], argTypes := #[68, 3] })⟩,
  ⟨none, (some 20), (.build 27 #[(0, (.tmp 13)), (1, (.tmp 15)), (2, (.tmp 17)), (3, (.tmp 19))])⟩,
  ⟨none, (some 5), (.alloc 27)⟩,
  ⟨none, none, (.store 27 (.tmp 5) (.tmp 20))⟩]
def c13_r3 : List GOp := [⟨none, (some 21), (.move (.tmp 4))⟩,
  ⟨none, (some 22), (.move (.tmp 4))⟩,
  ⟨none, (some 23), (.call { callee := (.value (.func 32)), args := #[(.tmp 22), (.const (.int .i64 2))], argTypes := #[68, 3] })⟩,
  ⟨none, (some 24), (.call { callee := (.value (.func 33)), args := #[(.tmp 21), (.tmp 23)], argTypes := #[68, 3] })⟩,
  ⟨none, (some 25), (.fieldAddr 27 (.tmp 5) 4)⟩,
  ⟨none, none, (.store 24 (.tmp 25) (.tmp 24))⟩]
def c13_r4 : List GOp := [⟨none, (some 27), (.load 27 (.tmp 5))⟩,
  ⟨none, (some 28), (.call { callee := (.value (.func 9)), args := #[(.tmp 27)], argTypes := #[27] })⟩,
  ⟨none, (some 26), (.move (.tmp 28))⟩,
  ⟨none, (some 29), (.extract (.tmp 26) 0)⟩,
  ⟨none, (some 30), (.extract (.tmp 26) 1)⟩,
  ⟨none, (some 6), (.assign (.tmp 29))⟩,
  ⟨none, (some 7), (.assign (.tmp 30))⟩]
def c13_r5 : List GOp := [⟨none, (some 31), (.move (.tmp 7))⟩,
  ⟨none, (some 32), (.binOp .neq 30 (.tmp 31) (.const (.int .i64 0)) 30)⟩,
  ⟨none, (some 33), (.move (.tmp 32))⟩,
  ⟨(some (33, false)), (some 34), (.move (.tmp 6))⟩,
  ⟨(some (33, false)), (some 35), (.move (.tmp 0))⟩,
  ⟨(some (33, false)), (some 36), (.call { callee := (.value (.func 34)), args := #[(.tmp 34), (.tmp 35)], argTypes := #[24, 24] })⟩,
  ⟨(some (33, false)), (some 37), (.unOp .not 4 (.tmp 36))⟩,
  ⟨none, (some 38), (.pick (.tmp 33) (.const (.bool true)) (.tmp 37))⟩]
def c13_r6 : List GOp := [⟨none, (some 39), (.build 27 #[])⟩,
  ⟨none, none, (.store 27 (.tmp 2) (.tmp 39))⟩,
  ⟨none, (some 3), (.assign (.const (.int .i64 2)))⟩]
def c13_r7 : List GOp := [⟨none, (some 40), (.load 27 (.tmp 5))⟩,
  ⟨none, none, (.store 27 (.tmp 2) (.tmp 40))⟩,
  ⟨none, (some 3), (.assign (.const (.int .i64 0)))⟩]
/-- corbel/call.ReadReq -/
def c13 : AC := (.seq (.reg c13_r0) (.seq (.reg c13_r1) (.seq (.reg c13_r2) (.seq (.reg c13_r3) (.seq (.seq (.reg c13_r4) (.seq (.reg c13_r5) (.cond (.tmp 38) (.seq (.reg c13_r6) .ret) .skip))) (.seq (.reg c13_r7) .ret))))))
theorem c13_eq : Try.f13.body.map comp = some c13 := by kernel_rfl
theorem c13_n : Try.f13.ntmps = 41 := by kernel_rfl
theorem c13_rs : Try.f13.results.toList = [.cell 2 27, .tmp 3] := by kernel_rfl
def c14_r0 : List GOp := [⟨none, (some 2), (.alloc 27)⟩,
  ⟨none, (some 3), (.assign (.const (.bool false)))⟩]
def c14_r1 : List GOp := [⟨none, (some 5), (.move (.tmp 0))⟩,
  ⟨none, (some 6), (.call { callee := (.builtin .len), args := #[(.tmp 5)], argTypes := #[24] })⟩,
  ⟨none, (some 7), (.binOp .lss 3 (.tmp 6) (.const (.int .i64 12)) 3)⟩]
def c14_r2 : List GOp := [⟨none, (some 8), (.build 27 #[])⟩,
  ⟨none, none, (.store 27 (.tmp 2) (.tmp 8))⟩,
  ⟨none, (some 3), (.assign (.const (.bool false)))⟩]
def c14_d3_ops : Array Oper := #[{ dst := (some 9), op := (.move (.tmp 0)), type := 24, pos := "ref.go:365", after := #[], guard := none },
  { dst := (some 10), op := (.indexAddr 24 (.tmp 9) (.const (.int .i64 0))), type := 0, pos := "ref.go:365", after := #[⟨0, .data⟩], guard := none },
  { dst := (some 11), op := (.load 5 (.tmp 10)), type := 5, pos := "ref.go:365", after := #[⟨1, .data⟩], guard := none },
  { dst := (some 12), op := (.convert 5 3 (.tmp 11)), type := 3, pos := "ref.go:365", after := #[⟨2, .data⟩], guard := none },
  { dst := (some 13), op := (.move (.tmp 0)), type := 24, pos := "ref.go:365", after := #[], guard := none },
  { dst := (some 14), op := (.slice 24 (.tmp 13) (some (.const (.int .i64 1))) (some (.const (.int .i64 3))) none), type := 24, pos := "ref.go:365", after := #[⟨4, .data⟩], guard := none },
  { dst := (some 15), op := (.call { callee := (.value (.func 35)), args := #[(.tmp 14)], argTypes := #[24] }), type := 3, pos := "ref.go:365", after := #[⟨5, .data⟩], guard := none },
  { dst := (some 16), op := (.move (.tmp 0)), type := 24, pos := "ref.go:365", after := #[], guard := none },
  { dst := (some 17), op := (.slice 24 (.tmp 16) (some (.const (.int .i64 3))) (some (.const (.int .i64 9))) none), type := 24, pos := "ref.go:365", after := #[⟨7, .data⟩], guard := none },
  { dst := (some 18), op := (.call { callee := (.value (.func 35)), args := #[(.tmp 17)], argTypes := #[24] }), type := 3, pos := "ref.go:365", after := #[⟨8, .data⟩, ⟨6, .chain⟩], guard := none },
  { dst := (some 19), op := (.move (.tmp 0)), type := 24, pos := "ref.go:365", after := #[], guard := none },
  { dst := (some 20), op := (.indexAddr 24 (.tmp 19) (.const (.int .i64 9))), type := 0, pos := "ref.go:365", after := #[⟨10, .data⟩], guard := none },
  { dst := (some 21), op := (.load 5 (.tmp 20)), type := 5, pos := "ref.go:365", after := #[⟨11, .data⟩], guard := none },
  { dst := (some 22), op := (.convert 5 3 (.tmp 21)), type := 3, pos := "ref.go:365", after := #[⟨12, .data⟩], guard := none },
  { dst := (some 23), op := (.buildSlice 24 0 #[]), type := 24, pos := "ref.go:365", after := #[], guard := none },
  { dst := (some 24), op := (.move (.tmp 0)), type := 24, pos := "ref.go:365", after := #[], guard := none },
  { dst := (some 25), op := (.slice 24 (.tmp 24) (some (.const (.int .i64 12))) none none), type := 24, pos := "ref.go:365", after := #[⟨15, .data⟩], guard := none },
  { dst := (some 26), op := (.call { callee := (.builtin .append), args := #[(.tmp 23), (.tmp 25)], argTypes := #[24, 24] }), type := 24, pos := "ref.go:365", after := #[⟨14, .data⟩, ⟨16, .data⟩, ⟨9, .chain⟩], guard := none },
  { dst := (some 27), op := (.build 27 #[(0, (.tmp 12)), (1, (.tmp 15)), (2, (.tmp 18)), (3, (.tmp 22)), (4, (.tmp 26))]), type := 27, pos := "ref.go:365", after := #[⟨3, .data⟩, ⟨6, .data⟩, ⟨9, .data⟩, ⟨13, .data⟩, ⟨17, .data⟩], guard := none },
  { dst := (some 4), op := (.alloc 27), type := 0, pos := "ref.go:365", after := #[], guard := none },
  { dst := none, op := (.store 27 (.tmp 4) (.tmp 27)), type := 0, pos := "ref.go:365", after := #[⟨19, .data⟩, ⟨18, .data⟩, ⟨17, .chain⟩, ⟨0, .phase⟩, ⟨1, .phase⟩, ⟨2, .phase⟩, ⟨3, .phase⟩, ⟨4, .phase⟩, ⟨5, .phase⟩, ⟨6, .phase⟩, ⟨7, .phase⟩, ⟨8, .phase⟩, ⟨9, .phase⟩, ⟨10, .phase⟩, ⟨11, .phase⟩, ⟨12, .phase⟩, ⟨13, .phase⟩, ⟨14, .phase⟩, ⟨15, .phase⟩, ⟨16, .phase⟩, ⟨17, .phase⟩, ⟨18, .phase⟩, ⟨19, .phase⟩], guard := none }]
def c14_d3 : Code := .region 3 c14_d3_ops true
def c14_d4_ops : Array Oper := #[{ dst := (some 28), op := (.load 27 (.tmp 4)), type := 27, pos := "ref.go:366", after := #[], guard := none },
  { dst := (some 29), op := (.call { callee := (.value (.func 8)), args := #[(.tmp 28)], argTypes := #[27] }), type := 4, pos := "ref.go:366", after := #[⟨0, .data⟩], guard := none },
  { dst := (some 30), op := (.unOp .not 4 (.tmp 29)), type := 4, pos := "ref.go:366", after := #[⟨1, .data⟩], guard := none },
  { dst := (some 31), op := (.move (.tmp 30)), type := 4, pos := "ref.go:366", after := #[⟨2, .data⟩, ⟨1, .chain⟩], guard := none },
  { dst := (some 32), op := (.load 27 (.tmp 4)), type := 27, pos := "ref.go:366", after := #[⟨3, .guard⟩], guard := (some (3, false)) },
  { dst := (some 33), op := (.call { callee := (.value (.func 10)), args := #[(.tmp 32)], argTypes := #[27] }), type := 24, pos := "ref.go:366", after := #[⟨4, .data⟩, ⟨3, .chain⟩, ⟨3, .guard⟩], guard := (some (3, false)) },
  { dst := (some 34), op := (.convert 24 9 (.tmp 33)), type := 9, pos := "ref.go:366", after := #[⟨5, .data⟩, ⟨3, .guard⟩], guard := (some (3, false)) },
  { dst := (some 35), op := (.move (.tmp 0)), type := 24, pos := "ref.go:366", after := #[⟨3, .guard⟩], guard := (some (3, false)) },
  { dst := (some 36), op := (.convert 24 9 (.tmp 35)), type := 9, pos := "ref.go:366", after := #[⟨7, .data⟩, ⟨3, .guard⟩], guard := (some (3, false)) },
  { dst := (some 37), op := (.binOp .neq 9 (.tmp 34) (.tmp 36) 9), type := 4, pos := "ref.go:366", after := #[⟨6, .data⟩, ⟨8, .data⟩, ⟨3, .guard⟩], guard := (some (3, false)) },
  { dst := (some 38), op := (.pick (.tmp 31) (.const (.bool true)) (.tmp 37)), type := 4, pos := "ref.go:366", after := #[⟨3, .data⟩, ⟨9, .data⟩], guard := none }]
def c14_d4 : Code := .region 4 c14_d4_ops true
def c14_r5 : List GOp := [⟨none, (some 39), (.build 27 #[])⟩,
  ⟨none, none, (.store 27 (.tmp 2) (.tmp 39))⟩,
  ⟨none, (some 3), (.assign (.const (.bool false)))⟩]
def c14_r6 : List GOp := [⟨none, (some 40), (.load 27 (.tmp 4))⟩,
  ⟨none, none, (.store 27 (.tmp 2) (.tmp 40))⟩,
  ⟨none, (some 3), (.assign (.const (.bool true)))⟩]
/-- corbel/corbelref7.ReadReq -/
def c14 : AC := (.seq (.reg c14_r0) (.seq (.seq (.reg c14_r1) (.cond (.tmp 7) (.seq (.reg c14_r2) .ret) .skip)) (.seq (.raw c14_d3) (.seq (.seq (.raw c14_d4) (.cond (.tmp 38) (.seq (.reg c14_r5) .ret) .skip)) (.seq (.reg c14_r6) .ret)))))
theorem c14_eq : Try.f14.body.map comp = some c14 := by kernel_rfl
theorem c14_n : Try.f14.ntmps = 41 := by kernel_rfl
theorem c14_rs : Try.f14.results.toList = [.cell 2 27, .tmp 3] := by kernel_rfl
def c15_r0 : List GOp := [⟨none, (some 0), (.assign (.const (.bool false)))⟩]
def c15_r1 : List GOp := [⟨none, (some 6), (.build 27 #[(0, (.const (.int .i64 4)))])⟩,
  ⟨none, (some 7), (.call { callee := (.value (.func 9)), args := #[(.tmp 6)], argTypes := #[27] })⟩,
  ⟨none, (some 5), (.move (.tmp 7))⟩,
  ⟨none, (some 8), (.extract (.tmp 5) 0)⟩,
  ⟨none, (some 9), (.extract (.tmp 5) 1)⟩,
  ⟨none, (some 1), (.assign (.tmp 8))⟩,
  ⟨none, (some 2), (.assign (.tmp 9))⟩]
def c15_r2 : List GOp := [⟨none, (some 11), (.move (.tmp 1))⟩,
  ⟨none, (some 12), (.call { callee := (.value (.func 13)), args := #[(.tmp 11)], argTypes := #[24] })⟩,
  ⟨none, (some 10), (.move (.tmp 12))⟩,
  ⟨none, (some 13), (.extract (.tmp 10) 0)⟩,
  ⟨none, (some 14), (.extract (.tmp 10) 1)⟩,
  ⟨none, (some 3), (.alloc 27)⟩,
  ⟨none, none, (.store 27 (.tmp 3) (.tmp 13))⟩,
  ⟨none, (some 4), (.assign (.tmp 14))⟩]
def c15_r3 : List GOp := [⟨none, (some 15), (.move (.tmp 2))⟩,
  ⟨none, (some 16), (.binOp .eql 30 (.tmp 15) (.const (.int .i64 0)) 30)⟩,
  ⟨none, (some 17), (.move (.tmp 16))⟩,
  ⟨(some (17, true)), (some 18), (.move (.tmp 1))⟩,
  ⟨(some (17, true)), (some 19), (.convert 24 9 (.tmp 18))⟩,
  ⟨(some (17, true)), (some 20), (.binOp .eql 9 (.tmp 19) (.const (.string ⟨#[4, 0, 0, 0, 0, 0, 0, 0, 0, 0, 0, 0]⟩)) 9)⟩,
  ⟨none, (some 21), (.pick (.tmp 17) (.tmp 20) (.const (.bool false)))⟩,
  ⟨none, (some 22), (.move (.tmp 21))⟩,
  ⟨(some (22, true)), (some 23), (.move (.tmp 4))⟩,
  ⟨(some (22, true)), (some 24), (.binOp .eql 30 (.tmp 23) (.const (.int .i64 0)) 30)⟩,
  ⟨none, (some 25), (.pick (.tmp 22) (.tmp 24) (.const (.bool false)))⟩,
  ⟨none, (some 26), (.move (.tmp 25))⟩,
  ⟨(some (26, true)), (some 27), (.fieldAddr 27 (.tmp 3) 0)⟩,
  ⟨(some (26, true)), (some 28), (.load 3 (.tmp 27))⟩,
  ⟨(some (26, true)), (some 29), (.binOp .eql 3 (.tmp 28) (.const (.int .i64 4)) 3)⟩,
  ⟨none, (some 30), (.pick (.tmp 26) (.tmp 29) (.const (.bool false)))⟩,
  ⟨none, (some 0), (.assign (.tmp 30))⟩]
/-- corbel/corbellaw11.known -/
def c15 : AC := (.seq (.reg c15_r0) (.seq (.reg c15_r1) (.seq (.reg c15_r2) (.seq (.reg c15_r3) .ret))))
theorem c15_eq : Try.f15.body.map comp = some c15 := by kernel_rfl
theorem c15_n : Try.f15.ntmps = 31 := by kernel_rfl
theorem c15_rs : Try.f15.results.toList = [.tmp 0] := by kernel_rfl
def c16_r0 : List GOp := [⟨none, (some 2), (.box 27 (.tmp 0))⟩,
  ⟨none, (some 3), (.box 27 (.tmp 1))⟩,
  ⟨none, (some 4), (.assign (.const (.bool false)))⟩]
def c16_r1 : List GOp := [⟨none, (some 5), (.fieldAddr 27 (.tmp 2) 0)⟩,
  ⟨none, (some 6), (.load 3 (.tmp 5))⟩,
  ⟨none, (some 7), (.fieldAddr 27 (.tmp 3) 0)⟩,
  ⟨none, (some 8), (.load 3 (.tmp 7))⟩,
  ⟨none, (some 9), (.binOp .eql 3 (.tmp 6) (.tmp 8) 3)⟩,
  ⟨none, (some 10), (.move (.tmp 9))⟩,
  ⟨(some (10, true)), (some 11), (.fieldAddr 27 (.tmp 2) 1)⟩,
  ⟨(some (10, true)), (some 12), (.load 3 (.tmp 11))⟩,
  ⟨(some (10, true)), (some 13), (.fieldAddr 27 (.tmp 3) 1)⟩,
  ⟨(some (10, true)), (some 14), (.load 3 (.tmp 13))⟩,
  ⟨(some (10, true)), (some 15), (.binOp .eql 3 (.tmp 12) (.tmp 14) 3)⟩,
  ⟨none, (some 16), (.pick (.tmp 10) (.tmp 15) (.const (.bool false)))⟩,
  ⟨none, (some 17), (.move (.tmp 16))⟩,
  ⟨(some (17, true)), (some 18), (.fieldAddr 27 (.tmp 2) 2)⟩,
  ⟨(some (17, true)), (some 19), (.load 3 (.tmp 18))⟩,
  ⟨(some (17, true)), (some 20), (.fieldAddr 27 (.tmp 3) 2)⟩,
  ⟨(some (17, true)), (some 21), (.load 3 (.tmp 20))⟩,
  ⟨(some (17, true)), (some 22), (.binOp .eql 3 (.tmp 19) (.tmp 21) 3)⟩,
  ⟨none, (some 23), (.pick (.tmp 17) (.tmp 22) (.const (.bool false)))⟩,
  ⟨none, (some 24), (.move (.tmp 23))⟩,
  ⟨(some (24, true)), (some 25), (.fieldAddr 27 (.tmp 2) 3)⟩,
  ⟨(some (24, true)), (some 26), (.load 3 (.tmp 25))⟩,
  ⟨(some (24, true)), (some 27), (.fieldAddr 27 (.tmp 3) 3)⟩,
  ⟨(some (24, true)), (some 28), (.load 3 (.tmp 27))⟩,
  ⟨(some (24, true)), (some 29), (.binOp .eql 3 (.tmp 26) (.tmp 28) 3)⟩,
  ⟨none, (some 30), (.pick (.tmp 24) (.tmp 29) (.const (.bool false)))⟩,
  ⟨none, (some 31), (.move (.tmp 30))⟩,
  ⟨(some (31, true)), (some 32), (.fieldAddr 27 (.tmp 2) 4)⟩,
  ⟨(some (31, true)), (some 33), (.load 24 (.tmp 32))⟩,
  ⟨(some (31, true)), (some 34), (.convert 24 9 (.tmp 33))⟩,
  ⟨(some (31, true)), (some 35), (.fieldAddr 27 (.tmp 3) 4)⟩,
  ⟨(some (31, true)), (some 36), (.load 24 (.tmp 35))⟩,
  ⟨(some (31, true)), (some 37), (.convert 24 9 (.tmp 36))⟩,
  ⟨(some (31, true)), (some 38), (.binOp .eql 9 (.tmp 34) (.tmp 37) 9)⟩,
  ⟨none, (some 39), (.pick (.tmp 31) (.tmp 38) (.const (.bool false)))⟩,
  ⟨none, (some 4), (.assign (.tmp 39))⟩]
/-- corbel/corbelref7.SameReq -/
def c16 : AC := (.seq (.reg c16_r0) (.seq (.reg c16_r1) .ret))
theorem c16_eq : Try.f16.body.map comp = some c16 := by kernel_rfl
theorem c16_n : Try.f16.ntmps = 40 := by kernel_rfl
theorem c16_rs : Try.f16.results.toList = [.tmp 4] := by kernel_rfl
def c17_r0 : List GOp := [⟨none, (some 10), (.alloc 49)⟩]
def c17_r1 : List GOp := [⟨none, (some 12), (.move (.tmp 0))⟩,
  ⟨none, (some 13), (.call { callee := (.value (.func 12)), args := #[(.tmp 12), (.const (.int .i64 40))], argTypes := #[3, 3] })⟩,
  ⟨none, (some 14), (.move (.tmp 1))⟩,
  ⟨none, (some 15), (.call { callee := (.value (.func 12)), args := #[(.tmp 14), (.const (.int .i64 9))], argTypes := #[3, 3] })⟩,
  ⟨none, (some 16), (.binOp .add 3 (.const (.int .i64 1)) (.tmp 15) 3)⟩,
  ⟨none, (some 17), (.move (.tmp 2))⟩,
  ⟨none, (some 18), (.call { callee := (.value (.func 12)), args := #[(.tmp 17), (.const (.int .i64 6))], argTypes := #[3, 3] })⟩,
  ⟨none, (some 19), (.move (.tmp 3))⟩,
  ⟨none, (some 20), (.call { callee := (.value (.func 26)), args := #[(.tmp 19), (.const (.int .i64 32))], argTypes := #[3, 3] })⟩,
  ⟨none, (some 21), (.build 49 #[(0, (.tmp 13)), (1, (.tmp 16)), (2, (.tmp 18)), (3, (.tmp 20))])⟩,
  ⟨none, (some 11), (.alloc 49)⟩,
  ⟨none, none, (.store 49 (.tmp 11) (.tmp 21))⟩]
def c17_r2 : List GOp := [⟨none, (some 22), (.move (.tmp 4))⟩,
  ⟨none, (some 23), (.call { callee := (.value (.func 12)), args := #[(.tmp 22), (.const (.int .i64 24))], argTypes := #[3, 3] })⟩]
def c17_r3 : List GOp := [⟨none, (some 25), (.binOp .eql 3 (.tmp 23) (.const (.int .i64 19)) 3)⟩,
  ⟨none, (some 24), (.assign (.tmp 25))⟩]
def c17_r4 : List GOp := [⟨none, (some 26), (.move (.tmp 0))⟩,
  ⟨none, (some 27), (.fieldAddr 49 (.tmp 11) 0)⟩,
  ⟨none, none, (.store 3 (.tmp 27) (.tmp 26))⟩]
def c17_r5 : List GOp := [⟨none, (some 29), (.binOp .eql 3 (.tmp 23) (.const (.int .i64 20)) 3)⟩,
  ⟨none, (some 28), (.assign (.tmp 29))⟩]
def c17_r6 : List GOp := [⟨none, (some 30), (.move (.tmp 1))⟩,
  ⟨none, (some 31), (.fieldAddr 49 (.tmp 11) 1)⟩,
  ⟨none, none, (.store 3 (.tmp 31) (.tmp 30))⟩]
def c17_r7 : List GOp := [⟨none, (some 33), (.binOp .eql 3 (.tmp 23) (.const (.int .i64 21)) 3)⟩,
  ⟨none, (some 32), (.assign (.tmp 33))⟩]
def c17_r8 : List GOp := [⟨none, (some 34), (.move (.tmp 2))⟩,
  ⟨none, (some 35), (.fieldAddr 49 (.tmp 11) 2)⟩,
  ⟨none, none, (.store 3 (.tmp 35) (.tmp 34))⟩]
def c17_r9 : List GOp := [⟨none, (some 37), (.binOp .eql 3 (.tmp 23) (.const (.int .i64 22)) 3)⟩,
  ⟨none, (some 36), (.assign (.tmp 37))⟩]
def c17_r10 : List GOp := [⟨none, (some 38), (.move (.tmp 3))⟩,
  ⟨none, (some 39), (.move (.tmp 4))⟩,
  ⟨none, (some 40), (.binOp .quo 3 (.tmp 39) (.const (.int .i64 24)) 3)⟩,
  ⟨none, (some 41), (.call { callee := (.value (.func 12)), args := #[(.tmp 40), (.const (.int .i64 40))], argTypes := #[3, 3] })⟩,
  ⟨none, (some 42), (.call { callee := (.value (.func 26)), args := #[(.tmp 38), (.tmp 41)], argTypes := #[3, 3] })⟩,
  ⟨none, (some 43), (.fieldAddr 49 (.tmp 11) 3)⟩,
  ⟨none, none, (.store 24 (.tmp 43) (.tmp 42))⟩]
def c17_r11 : List GOp := [⟨none, (some 45), (.binOp .eql 3 (.tmp 23) (.const (.int .i64 23)) 3)⟩,
  ⟨none, (some 44), (.assign (.tmp 45))⟩]
def c17_r12 : List GOp := [⟨none, (some 46), (.move (.tmp 1))⟩,
  ⟨none, (some 47), (.call { callee := (.value (.func 12)), args := #[(.tmp 46), (.const (.int .i64 1099511627776))], argTypes := #[3, 3] })⟩,
  ⟨none, (some 48), (.binOp .add 3 (.const (.int .i64 1)) (.tmp 47) 3)⟩,
  ⟨none, (some 49), (.fieldAddr 49 (.tmp 11) 1)⟩,
  ⟨none, none, (.store 3 (.tmp 49) (.tmp 48))⟩]
def c17_r13 : List GOp := [⟨none, (some 50), (.load 49 (.tmp 11))⟩,
  ⟨none, none, (.store 49 (.tmp 10) (.tmp 50))⟩]
/-- corbel/corbelhand.Piece -/
def c17 : AC := (.seq (.reg c17_r0) (.seq (.reg c17_r1) (.seq (.seq (.reg c17_r2) (.block 0 (.seq (.reg c17_r3) (.cond (.tmp 24) (.reg c17_r4) (.seq (.reg c17_r5) (.cond (.tmp 28) (.reg c17_r6) (.seq (.reg c17_r7) (.cond (.tmp 32) (.reg c17_r8) (.seq (.reg c17_r9) (.cond (.tmp 36) (.reg c17_r10) (.seq (.reg c17_r11) (.cond (.tmp 44) (.reg c17_r12) .skip)))))))))))) (.seq (.reg c17_r13) .ret))))
theorem c17_eq : Try.f17.body.map comp = some c17 := by kernel_rfl
theorem c17_n : Try.f17.ntmps = 51 := by kernel_rfl
theorem c17_rs : Try.f17.results.toList = [.cell 10 49] := by kernel_rfl
def c18_r0 : List GOp := [⟨none, (some 8), (.alloc 52)⟩]
def c18_r1 : List GOp := [⟨none, (some 10), (.move (.tmp 0))⟩,
  ⟨none, (some 11), (.call { callee := (.value (.func 12)), args := #[(.tmp 10), (.const (.int .i64 40))], argTypes := #[3, 3] })⟩,
  ⟨none, (some 12), (.move (.tmp 1))⟩,
  ⟨none, (some 13), (.call { callee := (.value (.func 12)), args := #[(.tmp 12), (.const (.int .i64 9))], argTypes := #[3, 3] })⟩,
  ⟨none, (some 14), (.binOp .add 3 (.const (.int .i64 1)) (.tmp 13) 3)⟩,
  ⟨none, (some 15), (.move (.tmp 2))⟩,
  ⟨none, (some 16), (.call { callee := (.value (.func 26)), args := #[(.tmp 15), (.const (.int .i64 128))], argTypes := #[3, 3] })⟩,
  ⟨none, (some 17), (.build 52 #[(0, (.tmp 11)), (1, (.tmp 14)), (2, (.tmp 16))])⟩,
  ⟨none, (some 9), (.alloc 52)⟩,
  ⟨none, none, (.store 52 (.tmp 9) (.tmp 17))⟩]
def c18_r2 : List GOp := [⟨none, (some 18), (.move (.tmp 3))⟩,
  ⟨none, (some 19), (.call { callee := (.value (.func 12)), args := #[(.tmp 18), (.const (.int .i64 24))], argTypes := #[3, 3] })⟩]
def c18_r3 : List GOp := [⟨none, (some 21), (.binOp .eql 3 (.tmp 19) (.const (.int .i64 20)) 3)⟩,
  ⟨none, (some 20), (.assign (.tmp 21))⟩]
def c18_r4 : List GOp := [⟨none, (some 22), (.move (.tmp 0))⟩,
  ⟨none, (some 23), (.fieldAddr 52 (.tmp 9) 0)⟩,
  ⟨none, none, (.store 3 (.tmp 23) (.tmp 22))⟩]
def c18_r5 : List GOp := [⟨none, (some 25), (.binOp .eql 3 (.tmp 19) (.const (.int .i64 21)) 3)⟩,
  ⟨none, (some 24), (.assign (.tmp 25))⟩]
def c18_r6 : List GOp := [⟨none, (some 26), (.move (.tmp 1))⟩,
  ⟨none, (some 27), (.fieldAddr 52 (.tmp 9) 1)⟩,
  ⟨none, none, (.store 3 (.tmp 27) (.tmp 26))⟩]
def c18_r7 : List GOp := [⟨none, (some 29), (.binOp .eql 3 (.tmp 19) (.const (.int .i64 22)) 3)⟩,
  ⟨none, (some 28), (.assign (.tmp 29))⟩]
def c18_r8 : List GOp := [⟨none, (some 30), (.move (.tmp 2))⟩,
  ⟨none, (some 31), (.move (.tmp 3))⟩,
  ⟨none, (some 32), (.binOp .quo 3 (.tmp 31) (.const (.int .i64 24)) 3)⟩,
  ⟨none, (some 33), (.call { callee := (.value (.func 12)), args := #[(.tmp 32), (.const (.int .i64 140))], argTypes := #[3, 3] })⟩,
  ⟨none, (some 34), (.call { callee := (.value (.func 26)), args := #[(.tmp 30), (.tmp 33)], argTypes := #[3, 3] })⟩,
  ⟨none, (some 35), (.fieldAddr 52 (.tmp 9) 2)⟩,
  ⟨none, none, (.store 24 (.tmp 35) (.tmp 34))⟩]
def c18_r9 : List GOp := [⟨none, (some 37), (.binOp .eql 3 (.tmp 19) (.const (.int .i64 23)) 3)⟩,
  ⟨none, (some 36), (.assign (.tmp 37))⟩]
def c18_r10 : List GOp := [⟨none, (some 38), (.move (.tmp 1))⟩,
  ⟨none, (some 39), (.call { callee := (.value (.func 12)), args := #[(.tmp 38), (.const (.int .i64 1099511627776))], argTypes := #[3, 3] })⟩,
  ⟨none, (some 40), (.binOp .add 3 (.const (.int .i64 1)) (.tmp 39) 3)⟩,
  ⟨none, (some 41), (.fieldAddr 52 (.tmp 9) 1)⟩,
  ⟨none, none, (.store 3 (.tmp 41) (.tmp 40))⟩]
def c18_r11 : List GOp := [⟨none, (some 42), (.load 52 (.tmp 9))⟩,
  ⟨none, none, (.store 52 (.tmp 8) (.tmp 42))⟩]
/-- corbel/corbelhand.Intent -/
def c18 : AC := (.seq (.reg c18_r0) (.seq (.reg c18_r1) (.seq (.seq (.reg c18_r2) (.block 0 (.seq (.reg c18_r3) (.cond (.tmp 20) (.reg c18_r4) (.seq (.reg c18_r5) (.cond (.tmp 24) (.reg c18_r6) (.seq (.reg c18_r7) (.cond (.tmp 28) (.reg c18_r8) (.seq (.reg c18_r9) (.cond (.tmp 36) (.reg c18_r10) .skip)))))))))) (.seq (.reg c18_r11) .ret))))
theorem c18_eq : Try.f18.body.map comp = some c18 := by kernel_rfl
theorem c18_n : Try.f18.ntmps = 43 := by kernel_rfl
theorem c18_rs : Try.f18.results.toList = [.cell 8 52] := by kernel_rfl
def c19_r0 : List GOp := [⟨none, (some 1), (.box 47 (.tmp 0))⟩,
  ⟨none, (some 2), (.assign (.const (.slice none 0 0)))⟩,
  ⟨none, (some 3), (.assign (.const (.int .i64 0)))⟩]
def c19_r1 : List GOp := [⟨none, (some 9), (.load 47 (.tmp 1))⟩,
  ⟨none, (some 10), (.call { callee := (.value (.func 36)), args := #[(.tmp 9)], argTypes := #[47] })⟩,
  ⟨none, (some 11), (.unOp .not 4 (.tmp 10))⟩]
def c19_r2 : List GOp := [⟨none, (some 2), (.assign (.const (.slice none 0 0)))⟩,
  ⟨none, (some 3), (.assign (.const (.int .i64 1)))⟩]
def c19_d3_ops : Array Oper := #[{ dst := (some 12), op := (.fieldAddr 47 (.tmp 1) 0), type := 0, pos := "call.go:90", after := #[], guard := none },
  { dst := (some 13), op := (.load 30 (.tmp 12)), type := 30, pos := "call.go:90", after := #[⟨0, .data⟩], guard := none },
  { dst := (some 14), op := (.call { callee := (.value (.func 29)), args := #[(.tmp 13), (.const (.int .i64 1))], argTypes := #[3, 3] }), type := 24, pos := "call.go:90", after := #[⟨1, .data⟩], guard := none },
  { dst := (some 15), op := (.fieldAddr 47 (.tmp 1) 1), type := 0, pos := "call.go:90", after := #[], guard := none },
  { dst := (some 16), op := (.load 3 (.tmp 15)), type := 3, pos := "call.go:90", after := #[⟨3, .data⟩], guard := none },
  { dst := (some 17), op := (.call { callee := (.value (.func 29)), args := #[(.tmp 16), (.const (.int .i64 4))], argTypes := #[3, 3] }), type := 24, pos := "call.go:90", after := #[⟨4, .data⟩, ⟨2, .chain⟩], guard := none },
  { dst := (some 18), op := (.fieldAddr 47 (.tmp 1) 2), type := 0, pos := "call.go:90", after := #[], guard := none },
  { dst := (some 19), op := (.load 44 (.tmp 18)), type := 44, pos := "call.go:90", after := #[⟨6, .data⟩], guard := none },
  { dst := (some 20), op := (.call { callee := (.builtin .len), args := #[(.tmp 19)], argTypes := #[44] }), type := 3, pos := "call.go:90", after := #[⟨7, .data⟩], guard := none },
  { dst := (some 21), op := (.call { callee := (.value (.func 29)), args := #[(.tmp 20), (.const (.int .i64 1))], argTypes := #[3, 3] }), type := 24, pos := "call.go:90", after := #[⟨8, .data⟩, ⟨5, .chain⟩], guard := none },
  { dst := (some 22), op := (.buildSlice 88 3 #[(0, (.tmp 14)), (1, (.tmp 17)), (2, (.tmp 21))]), type := 88, pos := "call.go:90", after := #[⟨2, .data⟩, ⟨5, .data⟩, ⟨9, .data⟩], guard := none },
  { dst := (some 23), op := (.call { callee := (.value (.func 28)), args := #[(.tmp 22)], argTypes := #[88] }), type := 24, pos := "call.go:90", after := #[⟨10, .data⟩, ⟨9, .chain⟩], guard := none },
  { dst := (some 4), op := (.assign (.tmp 23)), type := 24, pos := "call.go:90", after := #[⟨11, .data⟩, ⟨11, .chain⟩, ⟨0, .phase⟩, ⟨1, .phase⟩, ⟨2, .phase⟩, ⟨3, .phase⟩, ⟨4, .phase⟩, ⟨5, .phase⟩, ⟨6, .phase⟩, ⟨7, .phase⟩, ⟨8, .phase⟩, ⟨9, .phase⟩, ⟨10, .phase⟩, ⟨11, .phase⟩], guard := none }]
def c19_d3 : Code := .region 3 c19_d3_ops true
def c19_r4 : List GOp := [⟨none, (some 24), (.fieldAddr 47 (.tmp 1) 2)⟩,
  ⟨none, (some 25), (.load 44 (.tmp 24))⟩,
  ⟨none, (some 26), (.call { callee := (.builtin .len), args := #[(.tmp 25)], argTypes := #[44] })⟩,
  ⟨none, (some 27), (.move (.const (.int .i64 0)))⟩]
def c19_r5 : List GOp := [⟨none, (some 28), (.binOp .lss 3 (.tmp 27) (.tmp 26) 3)⟩]
def c19_r6 : List GOp := [⟨none, (some 29), (.indexAddr 44 (.tmp 25) (.tmp 27))⟩,
  ⟨none, (some 30), (.load 49 (.tmp 29))⟩,
  ⟨none, (some 6), (.alloc 49)⟩,
  ⟨none, none, (.store 49 (.tmp 6) (.tmp 30))⟩]
def c19_d7_ops : Array Oper := #[{ dst := (some 31), op := (.move (.tmp 4)), type := 24, pos := "call.go:92", after := #[], guard := none },
  { dst := (some 32), op := (.fieldAddr 49 (.tmp 6) 0), type := 0, pos := "call.go:92", after := #[], guard := none },
  { dst := (some 33), op := (.load 3 (.tmp 32)), type := 3, pos := "call.go:92", after := #[⟨1, .data⟩], guard := none },
  { dst := (some 34), op := (.call { callee := (.value (.func 29)), args := #[(.tmp 33), (.const (.int .i64 1))], argTypes := #[3, 3] }), type := 24, pos := "call.go:92", after := #[⟨2, .data⟩], guard := none },
  { dst := (some 35), op := (.fieldAddr 49 (.tmp 6) 1), type := 0, pos := "call.go:92", after := #[], guard := none },
  { dst := (some 36), op := (.load 3 (.tmp 35)), type := 3, pos := "call.go:92", after := #[⟨4, .data⟩], guard := none },
  { dst := (some 37), op := (.call { callee := (.value (.func 29)), args := #[(.tmp 36), (.const (.int .i64 6))], argTypes := #[3, 3] }), type := 24, pos := "call.go:92", after := #[⟨5, .data⟩, ⟨3, .chain⟩], guard := none },
  { dst := (some 38), op := (.fieldAddr 49 (.tmp 6) 2), type := 0, pos := "call.go:92", after := #[], guard := none },
  { dst := (some 39), op := (.load 3 (.tmp 38)), type := 3, pos := "call.go:92", after := #[⟨7, .data⟩], guard := none },
  { dst := (some 40), op := (.call { callee := (.value (.func 29)), args := #[(.tmp 39), (.const (.int .i64 1))], argTypes := #[3, 3] }), type := 24, pos := "call.go:92", after := #[⟨8, .data⟩, ⟨6, .chain⟩], guard := none },
  { dst := (some 41), op := (.fieldAddr 49 (.tmp 6) 3), type := 0, pos := "call.go:92", after := #[], guard := none },
  { dst := (some 42), op := (.load 24 (.tmp 41)), type := 24, pos := "call.go:92", after := #[⟨10, .data⟩], guard := none },
  { dst := (some 43), op := (.buildSlice 88 5 #[(0, (.tmp 31)), (1, (.tmp 34)), (2, (.tmp 37)), (3, (.tmp 40)), (4, (.tmp 42))]), type := 88, pos := "call.go:92", after := #[⟨0, .data⟩, ⟨3, .data⟩, ⟨6, .data⟩, ⟨9, .data⟩, ⟨11, .data⟩], guard := none },
  { dst := (some 44), op := (.call { callee := (.value (.func 28)), args := #[(.tmp 43)], argTypes := #[88] }), type := 24, pos := "call.go:92", after := #[⟨12, .data⟩, ⟨9, .chain⟩], guard := none },
  { dst := (some 4), op := (.assign (.tmp 44)), type := 24, pos := "call.go:92", after := #[⟨13, .data⟩, ⟨13, .chain⟩, ⟨0, .phase⟩, ⟨1, .phase⟩, ⟨2, .phase⟩, ⟨3, .phase⟩, ⟨4, .phase⟩, ⟨5, .phase⟩, ⟨6, .phase⟩, ⟨7, .phase⟩, ⟨8, .phase⟩, ⟨9, .phase⟩, ⟨10, .phase⟩, ⟨11, .phase⟩, ⟨12, .phase⟩, ⟨13, .phase⟩], guard := none }]
def c19_d7 : Code := .region 7 c19_d7_ops true
def c19_r8 : List GOp := [⟨none, (some 45), (.binOp .add 3 (.tmp 27) (.const (.int .i64 1)) 3)⟩,
  ⟨none, (some 27), (.move (.tmp 45))⟩]
def c19_l0 : AC := (.seq (.reg c19_r5) (.seq (.cond (.tmp 28) .skip (.exit 0)) (.seq (.block 1 (.seq (.reg c19_r6) (.raw c19_d7))) (.reg c19_r8))))
def c19_r9 : List GOp := [⟨none, (some 46), (.move (.tmp 4))⟩,
  ⟨none, (some 47), (.fieldAddr 47 (.tmp 1) 3)⟩,
  ⟨none, (some 48), (.load 45 (.tmp 47))⟩,
  ⟨none, (some 49), (.call { callee := (.builtin .len), args := #[(.tmp 48)], argTypes := #[45] })⟩,
  ⟨none, (some 50), (.convert 3 5 (.tmp 49))⟩,
  ⟨none, (some 51), (.buildSlice 24 1 #[(0, (.tmp 50))])⟩,
  ⟨none, (some 52), (.call { callee := (.builtin .append), args := #[(.tmp 46), (.tmp 51)], argTypes := #[24, 24] })⟩,
  ⟨none, (some 4), (.assign (.tmp 52))⟩]
def c19_r10 : List GOp := [⟨none, (some 53), (.fieldAddr 47 (.tmp 1) 3)⟩,
  ⟨none, (some 54), (.load 45 (.tmp 53))⟩,
  ⟨none, (some 55), (.call { callee := (.builtin .len), args := #[(.tmp 54)], argTypes := #[45] })⟩,
  ⟨none, (some 56), (.move (.const (.int .i64 0)))⟩]
def c19_r11 : List GOp := [⟨none, (some 57), (.binOp .lss 3 (.tmp 56) (.tmp 55) 3)⟩]
def c19_r12 : List GOp := [⟨none, (some 58), (.indexAddr 45 (.tmp 54) (.tmp 56))⟩,
  ⟨none, (some 59), (.load 52 (.tmp 58))⟩,
  ⟨none, (some 8), (.alloc 52)⟩,
  ⟨none, none, (.store 52 (.tmp 8) (.tmp 59))⟩]
def c19_d13_ops : Array Oper := #[{ dst := (some 60), op := (.move (.tmp 4)), type := 24, pos := "call.go:96", after := #[], guard := none },
  { dst := (some 61), op := (.fieldAddr 52 (.tmp 8) 0), type := 0, pos := "call.go:96", after := #[], guard := none },
  { dst := (some 62), op := (.load 3 (.tmp 61)), type := 3, pos := "call.go:96", after := #[⟨1, .data⟩], guard := none },
  { dst := (some 63), op := (.call { callee := (.value (.func 29)), args := #[(.tmp 62), (.const (.int .i64 1))], argTypes := #[3, 3] }), type := 24, pos := "call.go:96", after := #[⟨2, .data⟩], guard := none },
  { dst := (some 64), op := (.fieldAddr 52 (.tmp 8) 1), type := 0, pos := "call.go:96", after := #[], guard := none },
  { dst := (some 65), op := (.load 3 (.tmp 64)), type := 3, pos := "call.go:96", after := #[⟨4, .data⟩], guard := none },
  { dst := (some 66), op := (.call { callee := (.value (.func 29)), args := #[(.tmp 65), (.const (.int .i64 6))], argTypes := #[3, 3] }), type := 24, pos := "call.go:96", after := #[⟨5, .data⟩, ⟨3, .chain⟩], guard := none },
  { dst := (some 67), op := (.fieldAddr 52 (.tmp 8) 2), type := 0, pos := "call.go:96", after := #[], guard := none },
  { dst := (some 68), op := (.load 24 (.tmp 67)), type := 24, pos := "call.go:96", after := #[⟨7, .data⟩], guard := none },
  { dst := (some 69), op := (.buildSlice 88 4 #[(0, (.tmp 60)), (1, (.tmp 63)), (2, (.tmp 66)), (3, (.tmp 68))]), type := 88, pos := "call.go:96", after := #[⟨0, .data⟩, ⟨3, .data⟩, ⟨6, .data⟩, ⟨8, .data⟩], guard := none },
  { dst := (some 70), op := (.call { callee := (.value (.func 28)), args := #[(.tmp 69)], argTypes := #[88] }), type := 24, pos := "call.go:96", after := #[⟨9, .data⟩, ⟨6, .chain⟩], guard := none },
  { dst := (some 4), op := (.assign (.tmp 70)), type := 24, pos := "call.go:96", after := #[⟨10, .data⟩, ⟨10, .chain⟩, ⟨0, .phase⟩, ⟨1, .phase⟩, ⟨2, .phase⟩, ⟨3, .phase⟩, ⟨4, .phase⟩, ⟨5, .phase⟩, ⟨6, .phase⟩, ⟨7, .phase⟩, ⟨8, .phase⟩, ⟨9, .phase⟩, ⟨10, .phase⟩], guard := none }]
def c19_d13 : Code := .region 13 c19_d13_ops true
def c19_r14 : List GOp := [⟨none, (some 71), (.binOp .add 3 (.tmp 56) (.const (.int .i64 1)) 3)⟩,
  ⟨none, (some 56), (.move (.tmp 71))⟩]
def c19_l1 : AC := (.seq (.reg c19_r11) (.seq (.cond (.tmp 57) .skip (.exit 2)) (.seq (.block 3 (.seq (.reg c19_r12) (.raw c19_d13))) (.reg c19_r14))))
def c19_r15 : List GOp := [⟨none, (some 72), (.move (.tmp 4))⟩,
  ⟨none, (some 2), (.assign (.tmp 72))⟩,
  ⟨none, (some 3), (.assign (.const (.int .i64 0)))⟩]
/-- corbel/call.LayRep -/
def c19 : AC := (.seq (.reg c19_r0) (.seq (.seq (.reg c19_r1) (.cond (.tmp 11) (.seq (.reg c19_r2) .ret) .skip)) (.seq (.raw c19_d3) (.seq (.seq (.reg c19_r4) (.block 0 (.loop c19_l0))) (.seq (.reg c19_r9) (.seq (.seq (.reg c19_r10) (.block 2 (.loop c19_l1))) (.seq (.reg c19_r15) .ret)))))))
theorem c19_eq : Try.f19.body.map comp = some c19 := by kernel_rfl
theorem c19_n : Try.f19.ntmps = 73 := by kernel_rfl
theorem c19_rs : Try.f19.results.toList = [.tmp 2, .tmp 3] := by kernel_rfl
def c20_r0 : List GOp := [⟨none, (some 2), (.alloc 47)⟩,
  ⟨none, (some 3), (.assign (.const (.int .i64 0)))⟩]
def c20_r1 : List GOp := [⟨none, (some 8), (.move (.tmp 0))⟩,
  ⟨none, (some 9), (.call { callee := (.value (.func 31)), args := #[(.tmp 8)], argTypes := #[24] })⟩,
  ⟨none, (some 10), (.build 71 #[(0, (.tmp 9))])⟩,
  ⟨none, (some 11), (.box 71 (.tmp 10))⟩,
  ⟨none, (some 4), (.assign (.tmp 11))⟩]
def c20_r2 : List GOp := [⟨none, (some 12), (.move (.tmp 4))⟩,
  ⟨none, (some 13), (.call { callee := (.value (.func 32)), args := #[(.tmp 12), (.const (.int .i64 1))], argTypes := #[68, 3] })⟩,
  ⟨none, (some 14), (.move (.tmp 4))⟩,
  ⟨none, (some 15), (.call { callee := (.value (.func 32)), args := #[(.tmp 14), (.const (.int .i64 4))], argTypes := #[68, 3] })⟩,
  ⟨none, (some 16), (.build 47 #[(0, (.tmp 13)), (1, (.tmp 15))])⟩,
  ⟨none, (some 5), (.alloc 47)⟩,
  ⟨none, none, (.store 47 (.tmp 5) (.tmp 16))⟩]
def c20_r3 : List GOp := [⟨none, (some 17), (.move (.tmp 4))⟩,
  ⟨none, (some 18), (.call { callee := (.value (.func 32)), args := #[(.tmp 17), (.const (.int .i64 1))], argTypes := #[68, 3] })⟩,
  ⟨none, (some 19), (.move (.const (.int .i64 0)))⟩]
def c20_r4 : List GOp := [⟨none, (some 20), (.binOp .lss 3 (.tmp 19) (.tmp 18) 3)⟩]
def c20_d5_ops : Array Oper := #[{ dst := (some 21), op := (.fieldAddr 47 (.tmp 5) 2), type := 0, pos := "call.go:106", after := #[], guard := none },
  { dst := (some 22), op := (.load 44 (.tmp 21)), type := 44, pos := "call.go:106", after := #[⟨0, .data⟩], guard := none },
  { dst := (some 23), op := (.move (.tmp 4)), type := 68, pos := "call.go:106", after := #[], guard := none },
  { dst := (some 24), op := (.call { callee := (.value (.func 32)), args := #[(.tmp 23), (.const (.int .i64 1))], argTypes := #[68, 3] }), type := 3, pos := "call.go:106", after := #[⟨2, .data⟩], guard := none },
  { dst := (some 25), op := (.move (.tmp 4)), type := 68, pos := "call.go:106", after := #[], guard := none },
  { dst := (some 26), op := (.call { callee := (.value (.func 32)), args := #[(.tmp 25), (.const (.int .i64 6))], argTypes := #[68, 3] }), type := 3, pos := "call.go:106", after := #[⟨4, .data⟩, ⟨3, .chain⟩], guard := none },
  { dst := (some 27), op := (.move (.tmp 4)), type := 68, pos := "call.go:106", after := #[], guard := none },
  { dst := (some 28), op := (.call { callee := (.value (.func 32)), args := #[(.tmp 27), (.const (.int .i64 1))], argTypes := #[68, 3] }), type := 3, pos := "call.go:106", after := #[⟨6, .data⟩, ⟨5, .chain⟩], guard := none },
  { dst := (some 29), op := (.move (.tmp 4)), type := 68, pos := "call.go:106", after := #[], guard := none },
  { dst := (some 30), op := (.call { callee := (.value (.func 33)), args := #[(.tmp 29), (.const (.int .i64 32))], argTypes := #[68, 3] }), type := 24, pos := "call.go:106", after := #[⟨8, .data⟩, ⟨7, .chain⟩], guard := none },
  { dst := (some 31), op := (.build 49 #[(0, (.tmp 24)), (1, (.tmp 26)), (2, (.tmp 28)), (3, (.tmp 30))]), type := 49, pos := "call.go:106", after := #[⟨3, .data⟩, ⟨5, .data⟩, ⟨7, .data⟩, ⟨9, .data⟩], guard := none },
  { dst := (some 32), op := (.buildSlice 44 1 #[(0, (.tmp 31))]), type := 44, pos := "call.go:106", after := #[⟨10, .data⟩], guard := none },
  { dst := (some 33), op := (.call { callee := (.builtin .append), args := #[(.tmp 22), (.tmp 32)], argTypes := #[44, 44] }), type := 44, pos := "call.go:106", after := #[⟨1, .data⟩, ⟨11, .data⟩, ⟨9, .chain⟩], guard := none },
  { dst := (some 34), op := (.fieldAddr 47 (.tmp 5) 2), type := 0, pos := "call.go:106", after := #[⟨0, .phase⟩, ⟨1, .phase⟩, ⟨2, .phase⟩, ⟨3, .phase⟩, ⟨4, .phase⟩, ⟨5, .phase⟩, ⟨6, .phase⟩, ⟨7, .phase⟩, ⟨8, .phase⟩, ⟨9, .phase⟩, ⟨10, .phase⟩, ⟨11, .phase⟩, ⟨12, .phase⟩], guard := none },
  { dst := none, op := (.store 44 (.tmp 34) (.tmp 33)), type := 0, pos := "call.go:106", after := #[⟨13, .data⟩, ⟨12, .data⟩, ⟨12, .chain⟩, ⟨0, .phase⟩, ⟨1, .phase⟩, ⟨2, .phase⟩, ⟨3, .phase⟩, ⟨4, .phase⟩, ⟨5, .phase⟩, ⟨6, .phase⟩, ⟨7, .phase⟩, ⟨8, .phase⟩, ⟨9, .phase⟩, ⟨10, .phase⟩, ⟨11, .phase⟩, ⟨12, .phase⟩], guard := none }]
def c20_d5 : Code := .region 5 c20_d5_ops true
def c20_r6 : List GOp := [⟨none, (some 35), (.binOp .add 3 (.tmp 19) (.const (.int .i64 1)) 3)⟩,
  ⟨none, (some 19), (.move (.tmp 35))⟩]
def c20_l0 : AC := (.seq (.reg c20_r4) (.seq (.cond (.tmp 20) .skip (.exit 0)) (.seq (.block 1 (.raw c20_d5)) (.reg c20_r6))))
def c20_r7 : List GOp := [⟨none, (some 36), (.move (.tmp 4))⟩,
  ⟨none, (some 37), (.call { callee := (.value (.func 32)), args := #[(.tmp 36), (.const (.int .i64 1))], argTypes := #[68, 3] })⟩,
  ⟨none, (some 38), (.move (.const (.int .i64 0)))⟩]
def c20_r8 : List GOp := [⟨none, (some 39), (.binOp .lss 3 (.tmp 38) (.tmp 37) 3)⟩]
def c20_d9_ops : Array Oper := #[{ dst := (some 40), op := (.fieldAddr 47 (.tmp 5) 3), type := 0, pos := "call.go:109", after := #[], guard := none },
  { dst := (some 41), op := (.load 45 (.tmp 40)), type := 45, pos := "call.go:109", after := #[⟨0, .data⟩], guard := none },
  { dst := (some 42), op := (.move (.tmp 4)), type := 68, pos := "call.go:109", after := #[], guard := none },
  { dst := (some 43), op := (.call { callee := (.value (.func 32)), args := #[(.tmp 42), (.const (.int .i64 1))], argTypes := #[68, 3] }), type := 3, pos := "call.go:109", after := #[⟨2, .data⟩], guard := none },
  { dst := (some 44), op := (.move (.tmp 4)), type := 68, pos := "call.go:109", after := #[], guard := none },
  { dst := (some 45), op := (.call { callee := (.value (.func 32)), args := #[(.tmp 44), (.const (.int .i64 6))], argTypes := #[68, 3] }), type := 3, pos := "call.go:109", after := #[⟨4, .data⟩, ⟨3, .chain⟩], guard := none },
  { dst := (some 46), op := (.move (.tmp 4)), type := 68, pos := "call.go:109", after := #[], guard := none },
  { dst := (some 47), op := (.call { callee := (.value (.func 33)), args := #[(.tmp 46), (.const (.int .i64 128))], argTypes := #[68, 3] }), type := 24, pos := "call.go:109", after := #[⟨6, .data⟩, ⟨5, .chain⟩], guard := none },
  { dst := (some 48), op := (.build 52 #[(0, (.tmp 43)), (1, (.tmp 45)), (2, (.tmp 47))]), type := 52, pos := "call.go:109", after := #[⟨3, .data⟩, ⟨5, .data⟩, ⟨7, .data⟩], guard := none },
  { dst := (some 49), op := (.buildSlice 45 1 #[(0, (.tmp 48))]), type := 45, pos := "call.go:109", after := #[⟨8, .data⟩], guard := none },
  { dst := (some 50), op := (.call { callee := (.builtin .append), args := #[(.tmp 41), (.tmp 49)], argTypes := #[45, 45] }), type := 45, pos := "call.go:109", after := #[⟨1, .data⟩, ⟨9, .data⟩, ⟨7, .chain⟩], guard := none },
  { dst := (some 51), op := (.fieldAddr 47 (.tmp 5) 3), type := 0, pos := "call.go:109", after := #[⟨0, .phase⟩, ⟨1, .phase⟩, ⟨2, .phase⟩, ⟨3, .phase⟩, ⟨4, .phase⟩, ⟨5, .phase⟩, ⟨6, .phase⟩, ⟨7, .phase⟩, ⟨8, .phase⟩, ⟨9, .phase⟩, ⟨10, .phase⟩], guard := none },
  { dst := none, op := (.store 45 (.tmp 51) (.tmp 50)), type := 0, pos := "call.go:109", after := #[⟨11, .data⟩, ⟨10, .data⟩, ⟨10, .chain⟩, ⟨0, .phase⟩, ⟨1, .phase⟩, ⟨2, .phase⟩, ⟨3, .phase⟩, ⟨4, .phase⟩, ⟨5, .phase⟩, ⟨6, .phase⟩, ⟨7, .phase⟩, ⟨8, .phase⟩, ⟨9, .phase⟩, ⟨10, .phase⟩], guard := none }]
def c20_d9 : Code := .region 9 c20_d9_ops true
def c20_r10 : List GOp := [⟨none, (some 52), (.binOp .add 3 (.tmp 38) (.const (.int .i64 1)) 3)⟩,
  ⟨none, (some 38), (.move (.tmp 52))⟩]
def c20_l1 : AC := (.seq (.reg c20_r8) (.seq (.cond (.tmp 39) .skip (.exit 2)) (.seq (.block 3 (.raw c20_d9)) (.reg c20_r10))))
def c20_r11 : List GOp := [⟨none, (some 54), (.load 47 (.tmp 5))⟩,
  ⟨none, (some 55), (.call { callee := (.value (.func 19)), args := #[(.tmp 54)], argTypes := #[47] })⟩,
  ⟨none, (some 53), (.move (.tmp 55))⟩,
  ⟨none, (some 56), (.extract (.tmp 53) 0)⟩,
  ⟨none, (some 57), (.extract (.tmp 53) 1)⟩,
  ⟨none, (some 6), (.assign (.tmp 56))⟩,
  ⟨none, (some 7), (.assign (.tmp 57))⟩]
def c20_r12 : List GOp := [⟨none, (some 58), (.move (.tmp 4))⟩,
  ⟨none, (some 59), (.nilCheck (.tmp 58))⟩,
  ⟨none, (some 60), (.fieldAddr 71 (.tmp 59) 1)⟩,
  ⟨none, (some 61), (.load 4 (.tmp 60))⟩,
  ⟨none, (some 62), (.move (.tmp 61))⟩,
  ⟨(some (62, false)), (some 63), (.move (.tmp 7))⟩,
  ⟨(some (62, false)), (some 64), (.binOp .neq 30 (.tmp 63) (.const (.int .i64 0)) 30)⟩,
  ⟨none, (some 65), (.pick (.tmp 62) (.const (.bool true)) (.tmp 64))⟩,
  ⟨none, (some 66), (.move (.tmp 65))⟩,
  ⟨(some (66, false)), (some 67), (.move (.tmp 6))⟩,
  ⟨(some (66, false)), (some 68), (.move (.tmp 0))⟩,
  ⟨(some (66, false)), (some 69), (.call { callee := (.value (.func 34)), args := #[(.tmp 67), (.tmp 68)], argTypes := #[24, 24] })⟩,
  ⟨(some (66, false)), (some 70), (.unOp .not 4 (.tmp 69))⟩,
  ⟨none, (some 71), (.pick (.tmp 66) (.const (.bool true)) (.tmp 70))⟩]
def c20_r13 : List GOp := [⟨none, (some 72), (.build 47 #[])⟩,
  ⟨none, none, (.store 47 (.tmp 2) (.tmp 72))⟩,
  ⟨none, (some 3), (.assign (.const (.int .i64 2)))⟩]
def c20_r14 : List GOp := [⟨none, (some 73), (.load 47 (.tmp 5))⟩,
  ⟨none, none, (.store 47 (.tmp 2) (.tmp 73))⟩,
  ⟨none, (some 3), (.assign (.const (.int .i64 0)))⟩]
/-- corbel/call.ReadRep -/
def c20 : AC := (.seq (.reg c20_r0) (.seq (.reg c20_r1) (.seq (.reg c20_r2) (.seq (.seq (.reg c20_r3) (.block 0 (.loop c20_l0))) (.seq (.seq (.reg c20_r7) (.block 2 (.loop c20_l1))) (.seq (.seq (.reg c20_r11) (.seq (.reg c20_r12) (.cond (.tmp 71) (.seq (.reg c20_r13) .ret) .skip))) (.seq (.reg c20_r14) .ret)))))))
theorem c20_eq : Try.f20.body.map comp = some c20 := by kernel_rfl
theorem c20_n : Try.f20.ntmps = 74 := by kernel_rfl
theorem c20_rs : Try.f20.results.toList = [.cell 2 47, .tmp 3] := by kernel_rfl
def c21_r0 : List GOp := [⟨none, (some 2), (.box 47 (.tmp 0))⟩,
  ⟨none, (some 3), (.box 47 (.tmp 1))⟩,
  ⟨none, (some 4), (.assign (.const (.bool false)))⟩]
def c21_r1 : List GOp := [⟨none, (some 5), (.fieldAddr 47 (.tmp 2) 0)⟩,
  ⟨none, (some 6), (.load 30 (.tmp 5))⟩,
  ⟨none, (some 7), (.fieldAddr 47 (.tmp 3) 0)⟩,
  ⟨none, (some 8), (.load 30 (.tmp 7))⟩,
  ⟨none, (some 9), (.binOp .eql 30 (.tmp 6) (.tmp 8) 30)⟩,
  ⟨none, (some 10), (.move (.tmp 9))⟩,
  ⟨(some (10, true)), (some 11), (.fieldAddr 47 (.tmp 2) 1)⟩,
  ⟨(some (10, true)), (some 12), (.load 3 (.tmp 11))⟩,
  ⟨(some (10, true)), (some 13), (.fieldAddr 47 (.tmp 3) 1)⟩,
  ⟨(some (10, true)), (some 14), (.load 3 (.tmp 13))⟩,
  ⟨(some (10, true)), (some 15), (.binOp .eql 3 (.tmp 12) (.tmp 14) 3)⟩,
  ⟨none, (some 16), (.pick (.tmp 10) (.tmp 15) (.const (.bool false)))⟩,
  ⟨none, (some 17), (.move (.tmp 16))⟩,
  ⟨(some (17, true)), (some 18), (.fieldAddr 47 (.tmp 2) 2)⟩,
  ⟨(some (17, true)), (some 19), (.load 44 (.tmp 18))⟩,
  ⟨(some (17, true)), (some 20), (.fieldAddr 47 (.tmp 3) 2)⟩,
  ⟨(some (17, true)), (some 21), (.load 44 (.tmp 20))⟩,
  ⟨(some (17, true)), (some 22), (.call { callee := (.value (.func 37)), args := #[(.tmp 19), (.tmp 21)], argTypes := #[44, 44] })⟩,
  ⟨none, (some 23), (.pick (.tmp 17) (.tmp 22) (.const (.bool false)))⟩,
  ⟨none, (some 24), (.move (.tmp 23))⟩,
  ⟨(some (24, true)), (some 25), (.fieldAddr 47 (.tmp 2) 3)⟩,
  ⟨(some (24, true)), (some 26), (.load 45 (.tmp 25))⟩,
  ⟨(some (24, true)), (some 27), (.fieldAddr 47 (.tmp 3) 3)⟩,
  ⟨(some (24, true)), (some 28), (.load 45 (.tmp 27))⟩,
  ⟨(some (24, true)), (some 29), (.call { callee := (.value (.func 38)), args := #[(.tmp 26), (.tmp 28)], argTypes := #[45, 45] })⟩,
  ⟨none, (some 30), (.pick (.tmp 24) (.tmp 29) (.const (.bool false)))⟩,
  ⟨none, (some 4), (.assign (.tmp 30))⟩]
/-- corbel/corbelref7.SameRep -/
def c21 : AC := (.seq (.reg c21_r0) (.seq (.reg c21_r1) .ret))
theorem c21_eq : Try.f21.body.map comp = some c21 := by kernel_rfl
theorem c21_n : Try.f21.ntmps = 31 := by kernel_rfl
theorem c21_rs : Try.f21.results.toList = [.tmp 4] := by kernel_rfl
def c22_r0 : List GOp := [⟨none, (some 1), (.box 47 (.tmp 0))⟩,
  ⟨none, (some 2), (.assign (.const (.bool false)))⟩]
def c22_r1 : List GOp := [⟨none, (some 3), (.assign (.const (.int .i64 0)))⟩]
def c22_r2 : List GOp := [⟨none, (some 5), (.move (.tmp 3))⟩,
  ⟨none, (some 6), (.fieldAddr 47 (.tmp 1) 2)⟩,
  ⟨none, (some 7), (.load 44 (.tmp 6))⟩,
  ⟨none, (some 8), (.call { callee := (.builtin .len), args := #[(.tmp 7)], argTypes := #[44] })⟩,
  ⟨none, (some 9), (.binOp .lss 3 (.tmp 5) (.tmp 8) 3)⟩]
def c22_r4 : List GOp := [⟨none, (some 12), (.fieldAddr 47 (.tmp 1) 2)⟩,
  ⟨none, (some 13), (.load 44 (.tmp 12))⟩,
  ⟨none, (some 14), (.move (.tmp 3))⟩,
  ⟨none, (some 15), (.indexAddr 44 (.tmp 13) (.tmp 14))⟩,
  ⟨none, (some 16), (.load 49 (.tmp 15))⟩,
  ⟨none, (some 17), (.call { callee := (.value (.func 39)), args := #[(.tmp 16)], argTypes := #[49] })⟩,
  ⟨none, (some 18), (.unOp .not 4 (.tmp 17))⟩]
def c22_r5 : List GOp := [⟨none, (some 2), (.assign (.const (.bool false)))⟩]
def c22_r3 : List GOp := [⟨none, (some 10), (.move (.tmp 3))⟩,
  ⟨none, (some 11), (.binOp .add 3 (.tmp 10) (.const (.int .i64 1)) 3)⟩,
  ⟨none, (some 3), (.assign (.tmp 11))⟩]
def c22_l0 : AC := (.seq (.seq (.reg c22_r2) (.cond (.tmp 9) .skip (.exit 0))) (.seq (.block 1 (.seq (.reg c22_r4) (.cond (.tmp 18) (.seq (.reg c22_r5) .ret) .skip))) (.reg c22_r3)))
def c22_r6 : List GOp := [⟨none, (some 4), (.assign (.const (.int .i64 0)))⟩]
def c22_r7 : List GOp := [⟨none, (some 19), (.move (.tmp 4))⟩,
  ⟨none, (some 20), (.fieldAddr 47 (.tmp 1) 3)⟩,
  ⟨none, (some 21), (.load 45 (.tmp 20))⟩,
  ⟨none, (some 22), (.call { callee := (.builtin .len), args := #[(.tmp 21)], argTypes := #[45] })⟩,
  ⟨none, (some 23), (.binOp .lss 3 (.tmp 19) (.tmp 22) 3)⟩]
def c22_r9 : List GOp := [⟨none, (some 26), (.fieldAddr 47 (.tmp 1) 3)⟩,
  ⟨none, (some 27), (.load 45 (.tmp 26))⟩,
  ⟨none, (some 28), (.move (.tmp 4))⟩,
  ⟨none, (some 29), (.indexAddr 45 (.tmp 27) (.tmp 28))⟩,
  ⟨none, (some 30), (.load 52 (.tmp 29))⟩,
  ⟨none, (some 31), (.call { callee := (.value (.func 40)), args := #[(.tmp 30)], argTypes := #[52] })⟩,
  ⟨none, (some 32), (.unOp .not 4 (.tmp 31))⟩]
def c22_r10 : List GOp := [⟨none, (some 2), (.assign (.const (.bool false)))⟩]
def c22_r8 : List GOp := [⟨none, (some 24), (.move (.tmp 4))⟩,
  ⟨none, (some 25), (.binOp .add 3 (.tmp 24) (.const (.int .i64 1)) 3)⟩,
  ⟨none, (some 4), (.assign (.tmp 25))⟩]
def c22_l1 : AC := (.seq (.seq (.reg c22_r7) (.cond (.tmp 23) .skip (.exit 2))) (.seq (.block 3 (.seq (.reg c22_r9) (.cond (.tmp 32) (.seq (.reg c22_r10) .ret) .skip))) (.reg c22_r8)))
def c22_r11 : List GOp := [⟨none, (some 33), (.fieldAddr 47 (.tmp 1) 0)⟩,
  ⟨none, (some 34), (.load 30 (.tmp 33))⟩,
  ⟨none, (some 35), (.binOp .geq 30 (.tmp 34) (.const (.int .i64 0)) 30)⟩,
  ⟨none, (some 36), (.move (.tmp 35))⟩,
  ⟨(some (36, true)), (some 37), (.fieldAddr 47 (.tmp 1) 0)⟩,
  ⟨(some (36, true)), (some 38), (.load 30 (.tmp 37))⟩,
  ⟨(some (36, true)), (some 39), (.binOp .leq 30 (.tmp 38) (.const (.int .i64 255)) 30)⟩,
  ⟨none, (some 40), (.pick (.tmp 36) (.tmp 39) (.const (.bool false)))⟩,
  ⟨none, (some 41), (.move (.tmp 40))⟩,
  ⟨(some (41, true)), (some 42), (.fieldAddr 47 (.tmp 1) 1)⟩,
  ⟨(some (41, true)), (some 43), (.load 3 (.tmp 42))⟩,
  ⟨(some (41, true)), (some 44), (.binOp .geq 3 (.tmp 43) (.const (.int .i64 0)) 3)⟩,
  ⟨none, (some 45), (.pick (.tmp 41) (.tmp 44) (.const (.bool false)))⟩,
  ⟨none, (some 46), (.move (.tmp 45))⟩,
  ⟨(some (46, true)), (some 47), (.fieldAddr 47 (.tmp 1) 1)⟩,
  ⟨(some (46, true)), (some 48), (.load 3 (.tmp 47))⟩,
  ⟨(some (46, true)), (some 49), (.binOp .leq 3 (.tmp 48) (.const (.int .i64 2147483647)) 3)⟩,
  ⟨none, (some 50), (.pick (.tmp 46) (.tmp 49) (.const (.bool false)))⟩,
  ⟨none, (some 51), (.move (.tmp 50))⟩,
  ⟨(some (51, true)), (some 52), (.fieldAddr 47 (.tmp 1) 2)⟩,
  ⟨(some (51, true)), (some 53), (.load 44 (.tmp 52))⟩,
  ⟨(some (51, true)), (some 54), (.call { callee := (.builtin .len), args := #[(.tmp 53)], argTypes := #[44] })⟩,
  ⟨(some (51, true)), (some 55), (.binOp .leq 3 (.tmp 54) (.const (.int .i64 2)) 3)⟩,
  ⟨none, (some 56), (.pick (.tmp 51) (.tmp 55) (.const (.bool false)))⟩,
  ⟨none, (some 57), (.move (.tmp 56))⟩,
  ⟨(some (57, true)), (some 58), (.fieldAddr 47 (.tmp 1) 3)⟩,
  ⟨(some (57, true)), (some 59), (.load 45 (.tmp 58))⟩,
  ⟨(some (57, true)), (some 60), (.call { callee := (.builtin .len), args := #[(.tmp 59)], argTypes := #[45] })⟩,
  ⟨(some (57, true)), (some 61), (.binOp .leq 3 (.tmp 60) (.const (.int .i64 16)) 3)⟩,
  ⟨none, (some 62), (.pick (.tmp 57) (.tmp 61) (.const (.bool false)))⟩,
  ⟨none, (some 2), (.assign (.tmp 62))⟩]
/-- corbel/corbelref7.RightRep -/
def c22 : AC := (.seq (.reg c22_r0) (.seq (.seq (.reg c22_r1) (.block 0 (.loop c22_l0))) (.seq (.seq (.reg c22_r6) (.block 2 (.loop c22_l1))) (.seq (.reg c22_r11) .ret))))
theorem c22_eq : Try.f22.body.map comp = some c22 := by kernel_rfl
theorem c22_n : Try.f22.ntmps = 63 := by kernel_rfl
theorem c22_rs : Try.f22.results.toList = [.tmp 2] := by kernel_rfl
def c23_r0 : List GOp := [⟨none, (some 1), (.box 47 (.tmp 0))⟩,
  ⟨none, (some 2), (.assign (.const (.slice none 0 0)))⟩]
def c23_d1_ops : Array Oper := #[{ dst := (some 6), op := (.fieldAddr 47 (.tmp 1) 0), type := 0, pos := "ref.go:387", after := #[], guard := none },
  { dst := (some 7), op := (.load 30 (.tmp 6)), type := 30, pos := "ref.go:387", after := #[⟨0, .data⟩], guard := none },
  { dst := (some 8), op := (.call { callee := (.value (.func 30)), args := #[(.tmp 7), (.const (.int .i64 1))], argTypes := #[3, 3] }), type := 24, pos := "ref.go:387", after := #[⟨1, .data⟩], guard := none },
  { dst := (some 9), op := (.fieldAddr 47 (.tmp 1) 1), type := 0, pos := "ref.go:387", after := #[], guard := none },
  { dst := (some 10), op := (.load 3 (.tmp 9)), type := 3, pos := "ref.go:387", after := #[⟨3, .data⟩], guard := none },
  { dst := (some 11), op := (.call { callee := (.value (.func 30)), args := #[(.tmp 10), (.const (.int .i64 4))], argTypes := #[3, 3] }), type := 24, pos := "ref.go:387", after := #[⟨4, .data⟩, ⟨2, .chain⟩], guard := none },
  { dst := (some 12), op := (.call { callee := (.builtin .append), args := #[(.tmp 8), (.tmp 11)], argTypes := #[24, 24] }), type := 24, pos := "ref.go:387", after := #[⟨2, .data⟩, ⟨5, .data⟩, ⟨5, .chain⟩], guard := none },
  { dst := (some 3), op := (.assign (.tmp 12)), type := 24, pos := "ref.go:387", after := #[⟨6, .data⟩, ⟨6, .chain⟩, ⟨0, .phase⟩, ⟨1, .phase⟩, ⟨2, .phase⟩, ⟨3, .phase⟩, ⟨4, .phase⟩, ⟨5, .phase⟩, ⟨6, .phase⟩], guard := none }]
def c23_d1 : Code := .region 1 c23_d1_ops true
def c23_r2 : List GOp := [⟨none, (some 13), (.move (.tmp 3))⟩,
  ⟨none, (some 14), (.fieldAddr 47 (.tmp 1) 2)⟩,
  ⟨none, (some 15), (.load 44 (.tmp 14))⟩,
  ⟨none, (some 16), (.call { callee := (.builtin .len), args := #[(.tmp 15)], argTypes := #[44] })⟩,
  ⟨none, (some 17), (.convert 3 5 (.tmp 16))⟩,
  ⟨none, (some 18), (.buildSlice 24 1 #[(0, (.tmp 17))])⟩,
  ⟨none, (some 19), (.call { callee := (.builtin .append), args := #[(.tmp 13), (.tmp 18)], argTypes := #[24, 24] })⟩,
  ⟨none, (some 3), (.assign (.tmp 19))⟩]
def c23_r3 : List GOp := [⟨none, (some 4), (.assign (.const (.int .i64 0)))⟩]
def c23_r4 : List GOp := [⟨none, (some 20), (.move (.tmp 4))⟩,
  ⟨none, (some 21), (.fieldAddr 47 (.tmp 1) 2)⟩,
  ⟨none, (some 22), (.load 44 (.tmp 21))⟩,
  ⟨none, (some 23), (.call { callee := (.builtin .len), args := #[(.tmp 22)], argTypes := #[44] })⟩,
  ⟨none, (some 24), (.binOp .lss 3 (.tmp 20) (.tmp 23) 3)⟩]
def c23_r6 : List GOp := [⟨none, (some 27), (.move (.tmp 3))⟩,
  ⟨none, (some 28), (.fieldAddr 47 (.tmp 1) 2)⟩,
  ⟨none, (some 29), (.load 44 (.tmp 28))⟩,
  ⟨none, (some 30), (.move (.tmp 4))⟩,
  ⟨none, (some 31), (.indexAddr 44 (.tmp 29) (.tmp 30))⟩,
  ⟨none, (some 32), (.load 49 (.tmp 31))⟩,
  ⟨none, (some 33), (.call { callee := (.value (.func 41)), args := #[(.tmp 32)], argTypes := #[49] })⟩,
  ⟨none, (some 34), (.call { callee := (.builtin .append), args := #[(.tmp 27), (.tmp 33)], argTypes := #[24, 24] })⟩,
  ⟨none, (some 3), (.assign (.tmp 34))⟩]
def c23_r5 : List GOp := [⟨none, (some 25), (.move (.tmp 4))⟩,
  ⟨none, (some 26), (.binOp .add 3 (.tmp 25) (.const (.int .i64 1)) 3)⟩,
  ⟨none, (some 4), (.assign (.tmp 26))⟩]
def c23_l0 : AC := (.seq (.seq (.reg c23_r4) (.cond (.tmp 24) .skip (.exit 0))) (.seq (.block 1 (.reg c23_r6)) (.reg c23_r5)))
def c23_r7 : List GOp := [⟨none, (some 35), (.move (.tmp 3))⟩,
  ⟨none, (some 36), (.fieldAddr 47 (.tmp 1) 3)⟩,
  ⟨none, (some 37), (.load 45 (.tmp 36))⟩,
  ⟨none, (some 38), (.call { callee := (.builtin .len), args := #[(.tmp 37)], argTypes := #[45] })⟩,
  ⟨none, (some 39), (.convert 3 5 (.tmp 38))⟩,
  ⟨none, (some 40), (.buildSlice 24 1 #[(0, (.tmp 39))])⟩,
  ⟨none, (some 41), (.call { callee := (.builtin .append), args := #[(.tmp 35), (.tmp 40)], argTypes := #[24, 24] })⟩,
  ⟨none, (some 3), (.assign (.tmp 41))⟩]
def c23_r8 : List GOp := [⟨none, (some 5), (.assign (.const (.int .i64 0)))⟩]
def c23_r9 : List GOp := [⟨none, (some 42), (.move (.tmp 5))⟩,
  ⟨none, (some 43), (.fieldAddr 47 (.tmp 1) 3)⟩,
  ⟨none, (some 44), (.load 45 (.tmp 43))⟩,
  ⟨none, (some 45), (.call { callee := (.builtin .len), args := #[(.tmp 44)], argTypes := #[45] })⟩,
  ⟨none, (some 46), (.binOp .lss 3 (.tmp 42) (.tmp 45) 3)⟩]
def c23_r11 : List GOp := [⟨none, (some 49), (.move (.tmp 3))⟩,
  ⟨none, (some 50), (.fieldAddr 47 (.tmp 1) 3)⟩,
  ⟨none, (some 51), (.load 45 (.tmp 50))⟩,
  ⟨none, (some 52), (.move (.tmp 5))⟩,
  ⟨none, (some 53), (.indexAddr 45 (.tmp 51) (.tmp 52))⟩,
  ⟨none, (some 54), (.fieldAddr 52 (.tmp 53) 0)⟩,
  ⟨none, (some 55), (.load 3 (.tmp 54))⟩,
  ⟨none, (some 56), (.call { callee := (.value (.func 30)), args := #[(.tmp 55), (.const (.int .i64 1))], argTypes := #[3, 3] })⟩,
  ⟨none, (some 57), (.call { callee := (.builtin .append), args := #[(.tmp 49), (.tmp 56)], argTypes := #[24, 24] })⟩,
  ⟨none, (some 3), (.assign (.tmp 57))⟩]
def c23_r12 : List GOp := [⟨none, (some 58), (.move (.tmp 3))⟩,
  ⟨none, (some 59), (.fieldAddr 47 (.tmp 1) 3)⟩,
  ⟨none, (some 60), (.load 45 (.tmp 59))⟩,
  ⟨none, (some 61), (.move (.tmp 5))⟩,
  ⟨none, (some 62), (.indexAddr 45 (.tmp 60) (.tmp 61))⟩,
  ⟨none, (some 63), (.fieldAddr 52 (.tmp 62) 1)⟩,
  ⟨none, (some 64), (.load 3 (.tmp 63))⟩,
  ⟨none, (some 65), (.call { callee := (.value (.func 30)), args := #[(.tmp 64), (.const (.int .i64 6))], argTypes := #[3, 3] })⟩,
  ⟨none, (some 66), (.call { callee := (.builtin .append), args := #[(.tmp 58), (.tmp 65)], argTypes := #[24, 24] })⟩,
  ⟨none, (some 3), (.assign (.tmp 66))⟩]
def c23_r13 : List GOp := [⟨none, (some 67), (.move (.tmp 3))⟩,
  ⟨none, (some 68), (.fieldAddr 47 (.tmp 1) 3)⟩,
  ⟨none, (some 69), (.load 45 (.tmp 68))⟩,
  ⟨none, (some 70), (.move (.tmp 5))⟩,
  ⟨none, (some 71), (.indexAddr 45 (.tmp 69) (.tmp 70))⟩,
  ⟨none, (some 72), (.fieldAddr 52 (.tmp 71) 2)⟩,
  ⟨none, (some 73), (.load 24 (.tmp 72))⟩,
  ⟨none, (some 74), (.call { callee := (.builtin .append), args := #[(.tmp 67), (.tmp 73)], argTypes := #[24, 24] })⟩,
  ⟨none, (some 3), (.assign (.tmp 74))⟩]
def c23_r10 : List GOp := [⟨none, (some 47), (.move (.tmp 5))⟩,
  ⟨none, (some 48), (.binOp .add 3 (.tmp 47) (.const (.int .i64 1)) 3)⟩,
  ⟨none, (some 5), (.assign (.tmp 48))⟩]
def c23_l1 : AC := (.seq (.seq (.reg c23_r9) (.cond (.tmp 46) .skip (.exit 2))) (.seq (.block 3 (.seq (.reg c23_r11) (.seq (.reg c23_r12) (.reg c23_r13)))) (.reg c23_r10)))
def c23_r14 : List GOp := [⟨none, (some 75), (.move (.tmp 3))⟩,
  ⟨none, (some 2), (.assign (.tmp 75))⟩]
/-- corbel/corbelref7.LayRep -/
def c23 : AC := (.seq (.reg c23_r0) (.seq (.raw c23_d1) (.seq (.reg c23_r2) (.seq (.seq (.reg c23_r3) (.block 0 (.loop c23_l0))) (.seq (.reg c23_r7) (.seq (.seq (.reg c23_r8) (.block 2 (.loop c23_l1))) (.seq (.reg c23_r14) .ret)))))))
theorem c23_eq : Try.f23.body.map comp = some c23 := by kernel_rfl
theorem c23_n : Try.f23.ntmps = 76 := by kernel_rfl
theorem c23_rs : Try.f23.results.toList = [.tmp 2] := by kernel_rfl
def c24_r0 : List GOp := [⟨none, (some 2), (.alloc 47)⟩,
  ⟨none, (some 3), (.assign (.const (.bool false)))⟩]
def c24_r1 : List GOp := [⟨none, (some 7), (.move (.tmp 0))⟩,
  ⟨none, (some 4), (.assign (.tmp 7))⟩]
def c24_r2 : List GOp := [⟨none, (some 8), (.move (.tmp 0))⟩,
  ⟨none, (some 9), (.call { callee := (.builtin .len), args := #[(.tmp 8)], argTypes := #[24] })⟩,
  ⟨none, (some 10), (.binOp .lss 3 (.tmp 9) (.const (.int .i64 6)) 3)⟩]
def c24_r3 : List GOp := [⟨none, (some 11), (.build 47 #[])⟩,
  ⟨none, none, (.store 47 (.tmp 2) (.tmp 11))⟩,
  ⟨none, (some 3), (.assign (.const (.bool false)))⟩]
def c24_d4_ops : Array Oper := #[{ dst := (some 12), op := (.move (.tmp 0)), type := 24, pos := "ref.go:406", after := #[], guard := none },
  { dst := (some 13), op := (.indexAddr 24 (.tmp 12) (.const (.int .i64 0))), type := 0, pos := "ref.go:406", after := #[⟨0, .data⟩], guard := none },
  { dst := (some 14), op := (.load 5 (.tmp 13)), type := 5, pos := "ref.go:406", after := #[⟨1, .data⟩], guard := none },
  { dst := (some 15), op := (.convert 5 30 (.tmp 14)), type := 30, pos := "ref.go:406", after := #[⟨2, .data⟩], guard := none },
  { dst := (some 16), op := (.move (.tmp 0)), type := 24, pos := "ref.go:406", after := #[], guard := none },
  { dst := (some 17), op := (.slice 24 (.tmp 16) (some (.const (.int .i64 1))) (some (.const (.int .i64 5))) none), type := 24, pos := "ref.go:406", after := #[⟨4, .data⟩], guard := none },
  { dst := (some 18), op := (.call { callee := (.value (.func 35)), args := #[(.tmp 17)], argTypes := #[24] }), type := 3, pos := "ref.go:406", after := #[⟨5, .data⟩], guard := none },
  { dst := (some 19), op := (.build 47 #[(0, (.tmp 15)), (1, (.tmp 18))]), type := 47, pos := "ref.go:406", after := #[⟨3, .data⟩, ⟨6, .data⟩], guard := none },
  { dst := (some 5), op := (.alloc 47), type := 0, pos := "ref.go:406", after := #[], guard := none },
  { dst := none, op := (.store 47 (.tmp 5) (.tmp 19)), type := 0, pos := "ref.go:406", after := #[⟨8, .data⟩, ⟨7, .data⟩, ⟨6, .chain⟩, ⟨0, .phase⟩, ⟨1, .phase⟩, ⟨2, .phase⟩, ⟨3, .phase⟩, ⟨4, .phase⟩, ⟨5, .phase⟩, ⟨6, .phase⟩, ⟨7, .phase⟩, ⟨8, .phase⟩], guard := none }]
def c24_d4 : Code := .region 4 c24_d4_ops true
def c24_r5 : List GOp := [⟨none, (some 20), (.move (.tmp 0))⟩,
  ⟨none, (some 21), (.indexAddr 24 (.tmp 20) (.const (.int .i64 5)))⟩,
  ⟨none, (some 22), (.load 5 (.tmp 21))⟩,
  ⟨none, (some 23), (.convert 5 3 (.tmp 22))⟩,
  ⟨none, (some 6), (.assign (.tmp 23))⟩]
def c24_r6 : List GOp := [⟨none, (some 24), (.move (.tmp 0))⟩,
  ⟨none, (some 25), (.slice 24 (.tmp 24) (some (.const (.int .i64 6))) none none)⟩,
  ⟨none, (some 0), (.assign (.tmp 25))⟩]
def c24_r7 : List GOp := [⟨none, (some 26), (.move (.tmp 6))⟩,
  ⟨none, (some 27), (.binOp .gtr 3 (.tmp 26) (.const (.int .i64 0)) 3)⟩]
def c24_r9 : List GOp := [⟨none, (some 30), (.move (.tmp 0))⟩,
  ⟨none, (some 31), (.call { callee := (.builtin .len), args := #[(.tmp 30)], argTypes := #[24] })⟩,
  ⟨none, (some 32), (.binOp .lss 3 (.tmp 31) (.const (.int .i64 40)) 3)⟩]
def c24_r10 : List GOp := [⟨none, (some 33), (.build 47 #[])⟩,
  ⟨none, none, (.store 47 (.tmp 2) (.tmp 33))⟩,
  ⟨none, (some 3), (.assign (.const (.bool false)))⟩]
def c24_d11_ops : Array Oper := #[{ dst := (some 34), op := (.fieldAddr 47 (.tmp 5) 2), type := 0, pos := "ref.go:413", after := #[], guard := none },
  { dst := (some 35), op := (.load 44 (.tmp 34)), type := 44, pos := "ref.go:413", after := #[⟨0, .data⟩], guard := none },
  { dst := (some 36), op := (.move (.tmp 0)), type := 24, pos := "ref.go:413", after := #[], guard := none },
  { dst := (some 37), op := (.slice 24 (.tmp 36) none (some (.const (.int .i64 40))) none), type := 24, pos := "ref.go:413", after := #[⟨2, .data⟩], guard := none },
  { dst := (some 38), op := (.call { callee := (.value (.func 42)), args := #[(.tmp 37)], argTypes := #[24] }), type := 49, pos := "ref.go:413", after := #[⟨3, .data⟩], guard := none },
  { dst := (some 39), op := (.buildSlice 44 1 #[(0, (.tmp 38))]), type := 44, pos := "ref.go:413", after := #[⟨4, .data⟩], guard := none },
  { dst := (some 40), op := (.call { callee := (.builtin .append), args := #[(.tmp 35), (.tmp 39)], argTypes := #[44, 44] }), type := 44, pos := "ref.go:413", after := #[⟨1, .data⟩, ⟨5, .data⟩, ⟨4, .chain⟩], guard := none },
  { dst := (some 41), op := (.fieldAddr 47 (.tmp 5) 2), type := 0, pos := "ref.go:413", after := #[⟨0, .phase⟩, ⟨1, .phase⟩, ⟨2, .phase⟩, ⟨3, .phase⟩, ⟨4, .phase⟩, ⟨5, .phase⟩, ⟨6, .phase⟩], guard := none },
  { dst := none, op := (.store 44 (.tmp 41) (.tmp 40)), type := 0, pos := "ref.go:413", after := #[⟨7, .data⟩, ⟨6, .data⟩, ⟨6, .chain⟩, ⟨0, .phase⟩, ⟨1, .phase⟩, ⟨2, .phase⟩, ⟨3, .phase⟩, ⟨4, .phase⟩, ⟨5, .phase⟩, ⟨6, .phase⟩], guard := none }]
def c24_d11 : Code := .region 11 c24_d11_ops true
def c24_r12 : List GOp := [⟨none, (some 42), (.move (.tmp 0))⟩,
  ⟨none, (some 43), (.slice 24 (.tmp 42) (some (.const (.int .i64 40))) none none)⟩,
  ⟨none, (some 0), (.assign (.tmp 43))⟩]
def c24_r8 : List GOp := [⟨none, (some 28), (.move (.tmp 6))⟩,
  ⟨none, (some 29), (.binOp .sub 3 (.tmp 28) (.const (.int .i64 1)) 3)⟩,
  ⟨none, (some 6), (.assign (.tmp 29))⟩]
def c24_l0 : AC := (.seq (.seq (.reg c24_r7) (.cond (.tmp 27) .skip (.exit 0))) (.seq (.block 1 (.seq (.seq (.reg c24_r9) (.cond (.tmp 32) (.seq (.reg c24_r10) .ret) .skip)) (.seq (.raw c24_d11) (.reg c24_r12)))) (.reg c24_r8)))
def c24_r13 : List GOp := [⟨none, (some 44), (.move (.tmp 0))⟩,
  ⟨none, (some 45), (.call { callee := (.builtin .len), args := #[(.tmp 44)], argTypes := #[24] })⟩,
  ⟨none, (some 46), (.binOp .lss 3 (.tmp 45) (.const (.int .i64 1)) 3)⟩]
def c24_r14 : List GOp := [⟨none, (some 47), (.build 47 #[])⟩,
  ⟨none, none, (.store 47 (.tmp 2) (.tmp 47))⟩,
  ⟨none, (some 3), (.assign (.const (.bool false)))⟩]
def c24_r15 : List GOp := [⟨none, (some 48), (.move (.tmp 0))⟩,
  ⟨none, (some 49), (.indexAddr 24 (.tmp 48) (.const (.int .i64 0)))⟩,
  ⟨none, (some 50), (.load 5 (.tmp 49))⟩,
  ⟨none, (some 51), (.convert 5 3 (.tmp 50))⟩,
  ⟨none, (some 6), (.assign (.tmp 51))⟩]
def c24_r16 : List GOp := [⟨none, (some 52), (.move (.tmp 0))⟩,
  ⟨none, (some 53), (.slice 24 (.tmp 52) (some (.const (.int .i64 1))) none none)⟩,
  ⟨none, (some 0), (.assign (.tmp 53))⟩]
def c24_r17 : List GOp := [⟨none, (some 54), (.move (.tmp 6))⟩,
  ⟨none, (some 55), (.binOp .gtr 3 (.tmp 54) (.const (.int .i64 0)) 3)⟩]
def c24_r19 : List GOp := [⟨none, (some 58), (.move (.tmp 0))⟩,
  ⟨none, (some 59), (.call { callee := (.builtin .len), args := #[(.tmp 58)], argTypes := #[24] })⟩,
  ⟨none, (some 60), (.binOp .lss 3 (.tmp 59) (.const (.int .i64 135)) 3)⟩]
def c24_r20 : List GOp := [⟨none, (some 61), (.build 47 #[])⟩,
  ⟨none, none, (.store 47 (.tmp 2) (.tmp 61))⟩,
  ⟨none, (some 3), (.assign (.const (.bool false)))⟩]
def c24_d21_ops : Array Oper := #[{ dst := (some 62), op := (.fieldAddr 47 (.tmp 5) 3), type := 0, pos := "ref.go:425", after := #[], guard := none },
  { dst := (some 63), op := (.load 45 (.tmp 62)), type := 45, pos := "ref.go:425", after := #[⟨0, .data⟩], guard := none },
  { dst := (some 64), op := (.move (.tmp 0)), type := 24, pos := "ref.go:425", after := #[], guard := none },
  { dst := (some 65), op := (.indexAddr 24 (.tmp 64) (.const (.int .i64 0))), type := 0, pos := "ref.go:425", after := #[⟨2, .data⟩], guard := none },
  { dst := (some 66), op := (.load 5 (.tmp 65)), type := 5, pos := "ref.go:425", after := #[⟨3, .data⟩], guard := none },
  { dst := (some 67), op := (.convert 5 3 (.tmp 66)), type := 3, pos := "ref.go:425", after := #[⟨4, .data⟩], guard := none },
  { dst := (some 68), op := (.move (.tmp 0)), type := 24, pos := "ref.go:425", after := #[], guard := none },
  { dst := (some 69), op := (.slice 24 (.tmp 68) (some (.const (.int .i64 1))) (some (.const (.int .i64 7))) none), type := 24, pos := "ref.go:425", after := #[⟨6, .data⟩], guard := none },
  { dst := (some 70), op := (.call { callee := (.value (.func 35)), args := #[(.tmp 69)], argTypes := #[24] }), type := 3, pos := "ref.go:425", after := #[⟨7, .data⟩], guard := none },
  { dst := (some 71), op := (.buildSlice 24 0 #[]), type := 24, pos := "ref.go:425", after := #[], guard := none },
  { dst := (some 72), op := (.move (.tmp 0)), type := 24, pos := "ref.go:425", after := #[], guard := none },
  { dst := (some 73), op := (.slice 24 (.tmp 72) (some (.const (.int .i64 7))) (some (.const (.int .i64 135))) none), type := 24, pos := "ref.go:425", after := #[⟨10, .data⟩], guard := none },
  { dst := (some 74), op := (.call { callee := (.builtin .append), args := #[(.tmp 71), (.tmp 73)], argTypes := #[24, 24] }), type := 24, pos := "ref.go:425", after := #[⟨9, .data⟩, ⟨11, .data⟩, ⟨8, .chain⟩], guard := none },
  { dst := (some 75), op := (.build 52 #[(0, (.tmp 67)), (1, (.tmp 70)), (2, (.tmp 74))]), type := 52, pos := "ref.go:425", after := #[⟨5, .data⟩, ⟨8, .data⟩, ⟨12, .data⟩], guard := none },
  { dst := (some 76), op := (.buildSlice 45 1 #[(0, (.tmp 75))]), type := 45, pos := "ref.go:425", after := #[⟨13, .data⟩], guard := none },
  { dst := (some 77), op := (.call { callee := (.builtin .append), args := #[(.tmp 63), (.tmp 76)], argTypes := #[45, 45] }), type := 45, pos := "ref.go:425", after := #[⟨1, .data⟩, ⟨14, .data⟩, ⟨12, .chain⟩], guard := none },
  { dst := (some 78), op := (.fieldAddr 47 (.tmp 5) 3), type := 0, pos := "ref.go:425", after := #[⟨0, .phase⟩, ⟨1, .phase⟩, ⟨2, .phase⟩, ⟨3, .phase⟩, ⟨4, .phase⟩, ⟨5, .phase⟩, ⟨6, .phase⟩, ⟨7, .phase⟩, ⟨8, .phase⟩, ⟨9, .phase⟩, ⟨10, .phase⟩, ⟨11, .phase⟩, ⟨12, .phase⟩, ⟨13, .phase⟩, ⟨14, .phase⟩, ⟨15, .phase⟩], guard := none },
  { dst := none, op := (.store 45 (.tmp 78) (.tmp 77)), type := 0, pos := "ref.go:425", after := #[⟨16, .data⟩, ⟨15, .data⟩, ⟨15, .chain⟩, ⟨0, .phase⟩, ⟨1, .phase⟩, ⟨2, .phase⟩, ⟨3, .phase⟩, ⟨4, .phase⟩, ⟨5, .phase⟩, ⟨6, .phase⟩, ⟨7, .phase⟩, ⟨8, .phase⟩, ⟨9, .phase⟩, ⟨10, .phase⟩, ⟨11, .phase⟩, ⟨12, .phase⟩, ⟨13, .phase⟩, ⟨14, .phase⟩, ⟨15, .phase⟩], guard := none }]
def c24_d21 : Code := .region 21 c24_d21_ops true
def c24_r22 : List GOp := [⟨none, (some 79), (.move (.tmp 0))⟩,
  ⟨none, (some 80), (.slice 24 (.tmp 79) (some (.const (.int .i64 135))) none none)⟩,
  ⟨none, (some 0), (.assign (.tmp 80))⟩]
def c24_r18 : List GOp := [⟨none, (some 56), (.move (.tmp 6))⟩,
  ⟨none, (some 57), (.binOp .sub 3 (.tmp 56) (.const (.int .i64 1)) 3)⟩,
  ⟨none, (some 6), (.assign (.tmp 57))⟩]
def c24_l1 : AC := (.seq (.seq (.reg c24_r17) (.cond (.tmp 55) .skip (.exit 2))) (.seq (.block 3 (.seq (.seq (.reg c24_r19) (.cond (.tmp 60) (.seq (.reg c24_r20) .ret) .skip)) (.seq (.raw c24_d21) (.reg c24_r22)))) (.reg c24_r18)))
def c24_d23_ops : Array Oper := #[{ dst := (some 81), op := (.load 47 (.tmp 5)), type := 47, pos := "ref.go:428", after := #[], guard := none },
  { dst := (some 82), op := (.call { callee := (.value (.func 22)), args := #[(.tmp 81)], argTypes := #[47] }), type := 4, pos := "ref.go:428", after := #[⟨0, .data⟩], guard := none },
  { dst := (some 83), op := (.unOp .not 4 (.tmp 82)), type := 4, pos := "ref.go:428", after := #[⟨1, .data⟩], guard := none },
  { dst := (some 84), op := (.move (.tmp 83)), type := 4, pos := "ref.go:428", after := #[⟨2, .data⟩, ⟨1, .chain⟩], guard := none },
  { dst := (some 85), op := (.load 47 (.tmp 5)), type := 47, pos := "ref.go:428", after := #[⟨3, .guard⟩], guard := (some (3, false)) },
  { dst := (some 86), op := (.call { callee := (.value (.func 23)), args := #[(.tmp 85)], argTypes := #[47] }), type := 24, pos := "ref.go:428", after := #[⟨4, .data⟩, ⟨3, .chain⟩, ⟨3, .guard⟩], guard := (some (3, false)) },
  { dst := (some 87), op := (.convert 24 9 (.tmp 86)), type := 9, pos := "ref.go:428", after := #[⟨5, .data⟩, ⟨3, .guard⟩], guard := (some (3, false)) },
  { dst := (some 88), op := (.move (.tmp 4)), type := 24, pos := "ref.go:428", after := #[⟨3, .guard⟩], guard := (some (3, false)) },
  { dst := (some 89), op := (.convert 24 9 (.tmp 88)), type := 9, pos := "ref.go:428", after := #[⟨7, .data⟩, ⟨3, .guard⟩], guard := (some (3, false)) },
  { dst := (some 90), op := (.binOp .neq 9 (.tmp 87) (.tmp 89) 9), type := 4, pos := "ref.go:428", after := #[⟨6, .data⟩, ⟨8, .data⟩, ⟨3, .guard⟩], guard := (some (3, false)) },
  { dst := (some 91), op := (.pick (.tmp 84) (.const (.bool true)) (.tmp 90)), type := 4, pos := "ref.go:428", after := #[⟨3, .data⟩, ⟨9, .data⟩], guard := none }]
def c24_d23 : Code := .region 23 c24_d23_ops true
def c24_r24 : List GOp := [⟨none, (some 92), (.build 47 #[])⟩,
  ⟨none, none, (.store 47 (.tmp 2) (.tmp 92))⟩,
  ⟨none, (some 3), (.assign (.const (.bool false)))⟩]
def c24_r25 : List GOp := [⟨none, (some 93), (.load 47 (.tmp 5))⟩,
  ⟨none, none, (.store 47 (.tmp 2) (.tmp 93))⟩,
  ⟨none, (some 3), (.assign (.const (.bool true)))⟩]
/-- corbel/corbelref7.ReadRep -/
def c24 : AC := (.seq (.reg c24_r0) (.seq (.reg c24_r1) (.seq (.seq (.reg c24_r2) (.cond (.tmp 10) (.seq (.reg c24_r3) .ret) .skip)) (.seq (.raw c24_d4) (.seq (.reg c24_r5) (.seq (.reg c24_r6) (.seq (.block 0 (.loop c24_l0)) (.seq (.seq (.reg c24_r13) (.cond (.tmp 46) (.seq (.reg c24_r14) .ret) .skip)) (.seq (.reg c24_r15) (.seq (.reg c24_r16) (.seq (.block 2 (.loop c24_l1)) (.seq (.seq (.raw c24_d23) (.cond (.tmp 91) (.seq (.reg c24_r24) .ret) .skip)) (.seq (.reg c24_r25) .ret)))))))))))))
theorem c24_eq : Try.f24.body.map comp = some c24 := by kernel_rfl
theorem c24_n : Try.f24.ntmps = 94 := by kernel_rfl
theorem c24_rs : Try.f24.results.toList = [.cell 2 47, .tmp 3] := by kernel_rfl
def c25_r0 : List GOp := [⟨none, (some 2), (.box 47 (.tmp 0))⟩,
  ⟨none, (some 3), (.box 47 (.tmp 1))⟩,
  ⟨none, (some 4), (.assign (.const (.bool false)))⟩]
def c25_r1 : List GOp := [⟨none, (some 5), (.fieldAddr 47 (.tmp 2) 0)⟩,
  ⟨none, (some 6), (.load 30 (.tmp 5))⟩,
  ⟨none, (some 7), (.fieldAddr 47 (.tmp 3) 0)⟩,
  ⟨none, (some 8), (.load 30 (.tmp 7))⟩,
  ⟨none, (some 9), (.binOp .eql 30 (.tmp 6) (.tmp 8) 30)⟩,
  ⟨none, (some 10), (.move (.tmp 9))⟩,
  ⟨(some (10, true)), (some 11), (.fieldAddr 47 (.tmp 2) 1)⟩,
  ⟨(some (10, true)), (some 12), (.load 3 (.tmp 11))⟩,
  ⟨(some (10, true)), (some 13), (.fieldAddr 47 (.tmp 3) 1)⟩,
  ⟨(some (10, true)), (some 14), (.load 3 (.tmp 13))⟩,
  ⟨(some (10, true)), (some 15), (.binOp .eql 3 (.tmp 12) (.tmp 14) 3)⟩,
  ⟨none, (some 16), (.pick (.tmp 10) (.tmp 15) (.const (.bool false)))⟩,
  ⟨none, (some 17), (.move (.tmp 16))⟩,
  ⟨(some (17, true)), (some 18), (.fieldAddr 47 (.tmp 2) 2)⟩,
  ⟨(some (17, true)), (some 19), (.load 44 (.tmp 18))⟩,
  ⟨(some (17, true)), (some 20), (.fieldAddr 47 (.tmp 3) 2)⟩,
  ⟨(some (17, true)), (some 21), (.load 44 (.tmp 20))⟩,
  ⟨(some (17, true)), (some 22), (.call { callee := (.value (.func 43)), args := #[(.tmp 19), (.tmp 21), (.func 44)], argTypes := #[44, 44, 83] })⟩,
  ⟨none, (some 23), (.pick (.tmp 17) (.tmp 22) (.const (.bool false)))⟩,
  ⟨none, (some 24), (.move (.tmp 23))⟩,
  ⟨(some (24, true)), (some 25), (.fieldAddr 47 (.tmp 2) 3)⟩,
  ⟨(some (24, true)), (some 26), (.load 45 (.tmp 25))⟩,
  ⟨(some (24, true)), (some 27), (.fieldAddr 47 (.tmp 3) 3)⟩,
  ⟨(some (24, true)), (some 28), (.load 45 (.tmp 27))⟩,
  ⟨(some (24, true)), (some 29), (.call { callee := (.value (.func 45)), args := #[(.tmp 26), (.tmp 28), (.func 46)], argTypes := #[45, 45, 85] })⟩,
  ⟨none, (some 30), (.pick (.tmp 24) (.tmp 29) (.const (.bool false)))⟩,
  ⟨none, (some 4), (.assign (.tmp 30))⟩]
/-- corbel/call.SameRep -/
def c25 : AC := (.seq (.reg c25_r0) (.seq (.reg c25_r1) .ret))
theorem c25_eq : Try.f25.body.map comp = some c25 := by kernel_rfl
theorem c25_n : Try.f25.ntmps = 31 := by kernel_rfl
theorem c25_rs : Try.f25.results.toList = [.tmp 4] := by kernel_rfl
def c26_r0 : List GOp := [⟨none, (some 4), (.assign (.const (.slice none 0 0)))⟩]
def c26_r1 : List GOp := [⟨none, (some 8), (.move (.tmp 1))⟩,
  ⟨none, (some 9), (.makeSlice 24 (.tmp 8) (.tmp 8))⟩,
  ⟨none, (some 5), (.assign (.tmp 9))⟩]
def c26_r2 : List GOp := [⟨none, (some 10), (.move (.tmp 0))⟩,
  ⟨none, (some 11), (.call { callee := (.value (.func 12)), args := #[(.tmp 10), (.const (.int .i64 7))], argTypes := #[3, 3] })⟩,
  ⟨none, (some 12), (.binOp .eql 3 (.tmp 11) (.const (.int .i64 6)) 3)⟩]
def c26_r3 : List GOp := [⟨none, (some 13), (.move (.tmp 5))⟩,
  ⟨none, (some 4), (.assign (.tmp 13))⟩]
def c26_r4 : List GOp := [⟨none, (some 14), (.move (.tmp 0))⟩,
  ⟨none, (some 15), (.convert 3 86 (.tmp 14))⟩,
  ⟨none, (some 16), (.binOp .mul 86 (.tmp 15) (.const (.int .u64 2654435761)) 86)⟩,
  ⟨none, (some 17), (.binOp .add 86 (.tmp 16) (.const (.int .u64 12345)) 86)⟩,
  ⟨none, (some 6), (.assign (.tmp 17))⟩]
def c26_r5 : List GOp := [⟨none, (some 7), (.assign (.const (.int .i64 0)))⟩]
def c26_r6 : List GOp := [⟨none, (some 18), (.move (.tmp 7))⟩,
  ⟨none, (some 19), (.move (.tmp 1))⟩,
  ⟨none, (some 20), (.binOp .lss 3 (.tmp 18) (.tmp 19) 3)⟩]
def c26_r8 : List GOp := [⟨none, (some 23), (.move (.tmp 6))⟩,
  ⟨none, (some 24), (.binOp .mul 86 (.tmp 23) (.const (.int .u64 6364136223846793005)) 86)⟩,
  ⟨none, (some 25), (.binOp .add 86 (.tmp 24) (.const (.int .u64 1442695040888963407)) 86)⟩,
  ⟨none, (some 6), (.assign (.tmp 25))⟩]
def c26_r9 : List GOp := [⟨none, (some 26), (.move (.tmp 5))⟩,
  ⟨none, (some 27), (.move (.tmp 7))⟩,
  ⟨none, (some 28), (.move (.tmp 6))⟩,
  ⟨none, (some 29), (.binOp .shr 86 (.tmp 28) (.const (.int .u64 56)) 87)⟩,
  ⟨none, (some 30), (.convert 86 5 (.tmp 29))⟩,
  ⟨none, (some 31), (.indexAddr 24 (.tmp 26) (.tmp 27))⟩,
  ⟨none, none, (.store 5 (.tmp 31) (.tmp 30))⟩]
def c26_r7 : List GOp := [⟨none, (some 21), (.move (.tmp 7))⟩,
  ⟨none, (some 22), (.binOp .add 3 (.tmp 21) (.const (.int .i64 1)) 3)⟩,
  ⟨none, (some 7), (.assign (.tmp 22))⟩]
def c26_l0 : AC := (.seq (.seq (.reg c26_r6) (.cond (.tmp 20) .skip (.exit 0))) (.seq (.block 1 (.seq (.reg c26_r8) (.reg c26_r9))) (.reg c26_r7)))
def c26_r10 : List GOp := [⟨none, (some 32), (.move (.tmp 5))⟩,
  ⟨none, (some 4), (.assign (.tmp 32))⟩]
/-- corbel/corbelhand.Bytes -/
def c26 : AC := (.seq (.reg c26_r0) (.seq (.reg c26_r1) (.seq (.seq (.reg c26_r2) (.cond (.tmp 12) (.seq (.reg c26_r3) .ret) .skip)) (.seq (.reg c26_r4) (.seq (.seq (.reg c26_r5) (.block 0 (.loop c26_l0))) (.seq (.reg c26_r10) .ret))))))
theorem c26_eq : Try.f26.body.map comp = some c26 := by kernel_rfl
theorem c26_n : Try.f26.ntmps = 33 := by kernel_rfl
theorem c26_rs : Try.f26.results.toList = [.tmp 4] := by kernel_rfl
def c27_r0 : List GOp := [⟨none, (some 6), (.assign (.const (.bool false)))⟩]
def c27_r1 : List GOp := [⟨none, (some 7), (.move (.tmp 0))⟩,
  ⟨none, (some 8), (.move (.tmp 1))⟩,
  ⟨none, (some 9), (.binOp .geq 3 (.tmp 7) (.tmp 8) 3)⟩,
  ⟨none, (some 10), (.move (.tmp 9))⟩,
  ⟨(some (10, true)), (some 11), (.move (.tmp 0))⟩,
  ⟨(some (10, true)), (some 12), (.move (.tmp 2))⟩,
  ⟨(some (10, true)), (some 13), (.binOp .leq 3 (.tmp 11) (.tmp 12) 3)⟩,
  ⟨none, (some 14), (.pick (.tmp 10) (.tmp 13) (.const (.bool false)))⟩,
  ⟨none, (some 6), (.assign (.tmp 14))⟩]
/-- corbel/call.within -/
def c27 : AC := (.seq (.reg c27_r0) (.seq (.reg c27_r1) .ret))
theorem c27_eq : Try.f27.body.map comp = some c27 := by kernel_rfl
theorem c27_n : Try.f27.ntmps = 15 := by kernel_rfl
theorem c27_rs : Try.f27.results.toList = [.tmp 6] := by kernel_rfl
def c28_r0 : List GOp := [⟨none, (some 2), (.assign (.const (.slice none 0 0)))⟩]
def c28_r1 : List GOp := [⟨none, (some 3), (.assign (.const (.int .i64 0)))⟩]
def c28_r2 : List GOp := [⟨none, (some 9), (.move (.tmp 0))⟩,
  ⟨none, (some 10), (.call { callee := (.builtin .len), args := #[(.tmp 9)], argTypes := #[88] })⟩,
  ⟨none, (some 11), (.move (.const (.int .i64 0)))⟩]
def c28_r3 : List GOp := [⟨none, (some 12), (.binOp .lss 3 (.tmp 11) (.tmp 10) 3)⟩]
def c28_r4 : List GOp := [⟨none, (some 13), (.indexAddr 88 (.tmp 9) (.tmp 11))⟩,
  ⟨none, (some 14), (.load 24 (.tmp 13))⟩,
  ⟨none, (some 5), (.assign (.tmp 14))⟩]
def c28_r5 : List GOp := [⟨none, (some 15), (.move (.tmp 3))⟩,
  ⟨none, (some 16), (.move (.tmp 5))⟩,
  ⟨none, (some 17), (.call { callee := (.builtin .len), args := #[(.tmp 16)], argTypes := #[24] })⟩,
  ⟨none, (some 18), (.binOp .add 3 (.tmp 15) (.tmp 17) 3)⟩,
  ⟨none, (some 3), (.assign (.tmp 18))⟩]
def c28_r6 : List GOp := [⟨none, (some 19), (.move (.tmp 3))⟩,
  ⟨none, (some 20), (.binOp .lss 3 (.tmp 19) (.const (.int .i64 0)) 3)⟩]
def c28_r7 : List GOp := [⟨none, (some 21), (.makeInterface 9 (.const (.string ⟨#[108, 101, 110, 32, 111, 117, 116, 32, 111, 102, 32, 114, 97, 110, 103, 101]⟩)))⟩,
  ⟨none, none, (.panic (.tmp 21))⟩]
def c28_r8 : List GOp := [⟨none, (some 22), (.binOp .add 3 (.tmp 11) (.const (.int .i64 1)) 3)⟩,
  ⟨none, (some 11), (.move (.tmp 22))⟩]
def c28_l0 : AC := (.seq (.reg c28_r3) (.seq (.cond (.tmp 12) .skip (.exit 0)) (.seq (.block 1 (.seq (.reg c28_r4) (.seq (.reg c28_r5) (.seq (.reg c28_r6) (.cond (.tmp 20) (.reg c28_r7) .skip))))) (.reg c28_r8))))
def c28_r9 : List GOp := [⟨none, (some 23), (.move (.tmp 3))⟩,
  ⟨none, (some 24), (.call { callee := (.value (.func 47)), args := #[(.const (.slice none 0 0)), (.tmp 23)], argTypes := #[24, 3] })⟩,
  ⟨none, (some 6), (.assign (.tmp 24))⟩]
def c28_r10 : List GOp := [⟨none, (some 25), (.move (.tmp 0))⟩,
  ⟨none, (some 26), (.call { callee := (.builtin .len), args := #[(.tmp 25)], argTypes := #[88] })⟩,
  ⟨none, (some 27), (.move (.const (.int .i64 0)))⟩]
def c28_r11 : List GOp := [⟨none, (some 28), (.binOp .lss 3 (.tmp 27) (.tmp 26) 3)⟩]
def c28_r12 : List GOp := [⟨none, (some 29), (.indexAddr 88 (.tmp 25) (.tmp 27))⟩,
  ⟨none, (some 30), (.load 24 (.tmp 29))⟩,
  ⟨none, (some 8), (.assign (.tmp 30))⟩]
def c28_r13 : List GOp := [⟨none, (some 31), (.move (.tmp 6))⟩,
  ⟨none, (some 32), (.move (.tmp 8))⟩,
  ⟨none, (some 33), (.call { callee := (.builtin .append), args := #[(.tmp 31), (.tmp 32)], argTypes := #[24, 24] })⟩,
  ⟨none, (some 6), (.assign (.tmp 33))⟩]
def c28_r14 : List GOp := [⟨none, (some 34), (.binOp .add 3 (.tmp 27) (.const (.int .i64 1)) 3)⟩,
  ⟨none, (some 27), (.move (.tmp 34))⟩]
def c28_l1 : AC := (.seq (.reg c28_r11) (.seq (.cond (.tmp 28) .skip (.exit 2)) (.seq (.block 3 (.seq (.reg c28_r12) (.reg c28_r13))) (.reg c28_r14))))
def c28_r15 : List GOp := [⟨none, (some 35), (.move (.tmp 6))⟩,
  ⟨none, (some 2), (.assign (.tmp 35))⟩]
/-- slices.Concat[[]byte,byte] -/
def c28 : AC := (.seq (.reg c28_r0) (.seq (.reg c28_r1) (.seq (.seq (.reg c28_r2) (.block 0 (.loop c28_l0))) (.seq (.reg c28_r9) (.seq (.seq (.reg c28_r10) (.block 2 (.loop c28_l1))) (.seq (.reg c28_r15) .ret))))))
theorem c28_eq : Try.f28.body.map comp = some c28 := by kernel_rfl
theorem c28_n : Try.f28.ntmps = 36 := by kernel_rfl
theorem c28_rs : Try.f28.results.toList = [.tmp 2] := by kernel_rfl
def c29_r0 : List GOp := [⟨none, (some 4), (.assign (.const (.slice none 0 0)))⟩]
def c29_r1 : List GOp := [⟨none, (some 5), (.assign (.const (.slice none 0 0)))⟩]
def c29_r2 : List GOp := [⟨none, (some 7), (.move (.tmp 1))⟩,
  ⟨none, (some 8), (.binOp .sub 3 (.tmp 7) (.const (.int .i64 1)) 3)⟩,
  ⟨none, (some 6), (.assign (.tmp 8))⟩]
def c29_r3 : List GOp := [⟨none, (some 9), (.move (.tmp 6))⟩,
  ⟨none, (some 10), (.binOp .geq 3 (.tmp 9) (.const (.int .i64 0)) 3)⟩]
def c29_r5 : List GOp := [⟨none, (some 13), (.move (.tmp 5))⟩,
  ⟨none, (some 14), (.move (.tmp 0))⟩,
  ⟨none, (some 15), (.move (.tmp 6))⟩,
  ⟨none, (some 16), (.binOp .mul 3 (.const (.int .i64 8)) (.tmp 15) 3)⟩,
  ⟨none, (some 17), (.binOp .shr 3 (.tmp 14) (.tmp 16) 3)⟩,
  ⟨none, (some 18), (.convert 3 5 (.tmp 17))⟩,
  ⟨none, (some 19), (.buildSlice 24 1 #[(0, (.tmp 18))])⟩,
  ⟨none, (some 20), (.call { callee := (.builtin .append), args := #[(.tmp 13), (.tmp 19)], argTypes := #[24, 24] })⟩,
  ⟨none, (some 5), (.assign (.tmp 20))⟩]
def c29_r4 : List GOp := [⟨none, (some 11), (.move (.tmp 6))⟩,
  ⟨none, (some 12), (.binOp .sub 3 (.tmp 11) (.const (.int .i64 1)) 3)⟩,
  ⟨none, (some 6), (.assign (.tmp 12))⟩]
def c29_l0 : AC := (.seq (.seq (.reg c29_r3) (.cond (.tmp 10) .skip (.exit 0))) (.seq (.block 1 (.reg c29_r5)) (.reg c29_r4)))
def c29_r6 : List GOp := [⟨none, (some 21), (.move (.tmp 5))⟩,
  ⟨none, (some 4), (.assign (.tmp 21))⟩]
/-- corbel/call.bytes -/
def c29 : AC := (.seq (.reg c29_r0) (.seq (.reg c29_r1) (.seq (.seq (.reg c29_r2) (.block 0 (.loop c29_l0))) (.seq (.reg c29_r6) .ret))))
theorem c29_eq : Try.f29.body.map comp = some c29 := by kernel_rfl
theorem c29_n : Try.f29.ntmps = 22 := by kernel_rfl
theorem c29_rs : Try.f29.results.toList = [.tmp 4] := by kernel_rfl
def c30_r0 : List GOp := [⟨none, (some 4), (.assign (.const (.slice none 0 0)))⟩]
def c30_r1 : List GOp := [⟨none, (some 5), (.assign (.const (.slice none 0 0)))⟩]
def c30_r2 : List GOp := [⟨none, (some 7), (.move (.tmp 1))⟩,
  ⟨none, (some 8), (.binOp .sub 3 (.tmp 7) (.const (.int .i64 1)) 3)⟩,
  ⟨none, (some 6), (.assign (.tmp 8))⟩]
def c30_r3 : List GOp := [⟨none, (some 9), (.move (.tmp 6))⟩,
  ⟨none, (some 10), (.binOp .geq 3 (.tmp 9) (.const (.int .i64 0)) 3)⟩]
def c30_r5 : List GOp := [⟨none, (some 13), (.move (.tmp 5))⟩,
  ⟨none, (some 14), (.move (.tmp 0))⟩,
  ⟨none, (some 15), (.move (.tmp 6))⟩,
  ⟨none, (some 16), (.binOp .mul 3 (.const (.int .i64 8)) (.tmp 15) 3)⟩,
  ⟨none, (some 17), (.convert 3 87 (.tmp 16))⟩,
  ⟨none, (some 18), (.binOp .shr 3 (.tmp 14) (.tmp 17) 87)⟩,
  ⟨none, (some 19), (.convert 3 5 (.tmp 18))⟩,
  ⟨none, (some 20), (.buildSlice 24 1 #[(0, (.tmp 19))])⟩,
  ⟨none, (some 21), (.call { callee := (.builtin .append), args := #[(.tmp 13), (.tmp 20)], argTypes := #[24, 24] })⟩,
  ⟨none, (some 5), (.assign (.tmp 21))⟩]
def c30_r4 : List GOp := [⟨none, (some 11), (.move (.tmp 6))⟩,
  ⟨none, (some 12), (.binOp .sub 3 (.tmp 11) (.const (.int .i64 1)) 3)⟩,
  ⟨none, (some 6), (.assign (.tmp 12))⟩]
def c30_l0 : AC := (.seq (.seq (.reg c30_r3) (.cond (.tmp 10) .skip (.exit 0))) (.seq (.block 1 (.reg c30_r5)) (.reg c30_r4)))
def c30_r6 : List GOp := [⟨none, (some 22), (.move (.tmp 5))⟩,
  ⟨none, (some 4), (.assign (.tmp 22))⟩]
/-- corbel/corbelref7.Big -/
def c30 : AC := (.seq (.reg c30_r0) (.seq (.reg c30_r1) (.seq (.seq (.reg c30_r2) (.block 0 (.loop c30_l0))) (.seq (.reg c30_r6) .ret))))
theorem c30_eq : Try.f30.body.map comp = some c30 := by kernel_rfl
theorem c30_n : Try.f30.ntmps = 23 := by kernel_rfl
theorem c30_rs : Try.f30.results.toList = [.tmp 4] := by kernel_rfl
def c31_r0 : List GOp := [⟨none, (some 2), (.assign (.const (.slice none 0 0)))⟩]
def c31_r1 : List GOp := [⟨none, (some 3), (.move (.tmp 0))⟩,
  ⟨none, (some 4), (.binOp .eql 24 (.tmp 3) (.const (.slice none 0 0)) 24)⟩]
def c31_r2 : List GOp := [⟨none, (some 2), (.assign (.const (.slice none 0 0)))⟩]
def c31_r3 : List GOp := [⟨none, (some 5), (.buildSlice 24 0 #[])⟩,
  ⟨none, (some 6), (.move (.tmp 0))⟩,
  ⟨none, (some 7), (.call { callee := (.builtin .append), args := #[(.tmp 5), (.tmp 6)], argTypes := #[24, 24] })⟩,
  ⟨none, (some 2), (.assign (.tmp 7))⟩]
/-- slices.Clone[[]byte,byte] -/
def c31 : AC := (.seq (.reg c31_r0) (.seq (.seq (.reg c31_r1) (.cond (.tmp 4) (.seq (.reg c31_r2) .ret) .skip)) (.seq (.reg c31_r3) .ret)))
theorem c31_eq : Try.f31.body.map comp = some c31 := by kernel_rfl
theorem c31_n : Try.f31.ntmps = 8 := by kernel_rfl
theorem c31_rs : Try.f31.results.toList = [.tmp 2] := by kernel_rfl
def c32_r0 : List GOp := [⟨none, (some 4), (.assign (.const (.int .i64 0)))⟩]
def c32_r1 : List GOp := [⟨none, (some 5), (.assign (.const (.int .i64 0)))⟩]
def c32_r2 : List GOp := [⟨none, (some 8), (.move (.tmp 0))⟩,
  ⟨none, (some 9), (.move (.tmp 1))⟩,
  ⟨none, (some 10), (.call { callee := (.value (.func 33)), args := #[(.tmp 8), (.tmp 9)], argTypes := #[68, 3] })⟩,
  ⟨none, (some 11), (.call { callee := (.builtin .len), args := #[(.tmp 10)], argTypes := #[24] })⟩,
  ⟨none, (some 12), (.move (.const (.int .i64 0)))⟩]
def c32_r3 : List GOp := [⟨none, (some 13), (.binOp .lss 3 (.tmp 12) (.tmp 11) 3)⟩]
def c32_r4 : List GOp := [⟨none, (some 14), (.indexAddr 24 (.tmp 10) (.tmp 12))⟩,
  ⟨none, (some 15), (.load 5 (.tmp 14))⟩,
  ⟨none, (some 7), (.assign (.tmp 15))⟩]
def c32_r5 : List GOp := [⟨none, (some 16), (.move (.tmp 5))⟩,
  ⟨none, (some 17), (.binOp .shl 3 (.tmp 16) (.const (.int .u64 8)) 87)⟩,
  ⟨none, (some 18), (.move (.tmp 7))⟩,
  ⟨none, (some 19), (.convert 5 3 (.tmp 18))⟩,
  ⟨none, (some 20), (.binOp .or 3 (.tmp 17) (.tmp 19) 3)⟩,
  ⟨none, (some 5), (.assign (.tmp 20))⟩]
def c32_r6 : List GOp := [⟨none, (some 21), (.binOp .add 3 (.tmp 12) (.const (.int .i64 1)) 3)⟩,
  ⟨none, (some 12), (.move (.tmp 21))⟩]
def c32_l0 : AC := (.seq (.reg c32_r3) (.seq (.cond (.tmp 13) .skip (.exit 0)) (.seq (.block 1 (.seq (.reg c32_r4) (.reg c32_r5))) (.reg c32_r6))))
def c32_r7 : List GOp := [⟨none, (some 22), (.move (.tmp 5))⟩,
  ⟨none, (some 4), (.assign (.tmp 22))⟩]
/-- (*corbel/call.reader).number -/
def c32 : AC := (.seq (.reg c32_r0) (.seq (.reg c32_r1) (.seq (.seq (.reg c32_r2) (.block 0 (.loop c32_l0))) (.seq (.reg c32_r7) .ret))))
theorem c32_eq : Try.f32.body.map comp = some c32 := by kernel_rfl
theorem c32_n : Try.f32.ntmps = 23 := by kernel_rfl
theorem c32_rs : Try.f32.results.toList = [.tmp 4] := by kernel_rfl
def c33_r0 : List GOp := [⟨none, (some 4), (.assign (.const (.slice none 0 0)))⟩]
def c33_r1 : List GOp := [⟨none, (some 6), (.move (.tmp 1))⟩,
  ⟨none, (some 7), (.move (.tmp 0))⟩,
  ⟨none, (some 8), (.nilCheck (.tmp 7))⟩,
  ⟨none, (some 9), (.fieldAddr 71 (.tmp 8) 0)⟩,
  ⟨none, (some 10), (.load 24 (.tmp 9))⟩,
  ⟨none, (some 11), (.call { callee := (.builtin .len), args := #[(.tmp 10)], argTypes := #[24] })⟩,
  ⟨none, (some 12), (.binOp .gtr 3 (.tmp 6) (.tmp 11) 3)⟩]
def c33_r2 : List GOp := [⟨none, (some 13), (.move (.tmp 0))⟩,
  ⟨none, (some 14), (.move (.tmp 0))⟩,
  ⟨none, (some 15), (.nilCheck (.tmp 13))⟩,
  ⟨none, (some 16), (.fieldAddr 71 (.tmp 15) 0)⟩,
  ⟨none, none, (.store 24 (.tmp 16) (.const (.slice none 0 0)))⟩,
  ⟨none, (some 17), (.nilCheck (.tmp 14))⟩,
  ⟨none, (some 18), (.fieldAddr 71 (.tmp 17) 1)⟩,
  ⟨none, none, (.store 4 (.tmp 18) (.const (.bool true)))⟩]
def c33_r3 : List GOp := [⟨none, (some 4), (.assign (.const (.slice none 0 0)))⟩]
def c33_r4 : List GOp := [⟨none, (some 19), (.move (.tmp 0))⟩,
  ⟨none, (some 20), (.nilCheck (.tmp 19))⟩,
  ⟨none, (some 21), (.fieldAddr 71 (.tmp 20) 0)⟩,
  ⟨none, (some 22), (.load 24 (.tmp 21))⟩,
  ⟨none, (some 23), (.move (.tmp 1))⟩,
  ⟨none, (some 24), (.slice 24 (.tmp 22) none (some (.tmp 23)) none)⟩,
  ⟨none, (some 25), (.call { callee := (.value (.func 31)), args := #[(.tmp 24)], argTypes := #[24] })⟩,
  ⟨none, (some 5), (.assign (.tmp 25))⟩]
def c33_r5 : List GOp := [⟨none, (some 26), (.move (.tmp 0))⟩,
  ⟨none, (some 27), (.move (.tmp 0))⟩,
  ⟨none, (some 28), (.nilCheck (.tmp 27))⟩,
  ⟨none, (some 29), (.fieldAddr 71 (.tmp 28) 0)⟩,
  ⟨none, (some 30), (.load 24 (.tmp 29))⟩,
  ⟨none, (some 31), (.move (.tmp 1))⟩,
  ⟨none, (some 32), (.slice 24 (.tmp 30) (some (.tmp 31)) none none)⟩,
  ⟨none, (some 33), (.nilCheck (.tmp 26))⟩,
  ⟨none, (some 34), (.fieldAddr 71 (.tmp 33) 0)⟩,
  ⟨none, none, (.store 24 (.tmp 34) (.tmp 32))⟩]
def c33_r6 : List GOp := [⟨none, (some 35), (.move (.tmp 5))⟩,
  ⟨none, (some 4), (.assign (.tmp 35))⟩]
/-- (*corbel/call.reader).take -/
def c33 : AC := (.seq (.reg c33_r0) (.seq (.seq (.reg c33_r1) (.cond (.tmp 12) (.seq (.reg c33_r2) (.seq (.reg c33_r3) .ret)) .skip)) (.seq (.reg c33_r4) (.seq (.reg c33_r5) (.seq (.reg c33_r6) .ret)))))
theorem c33_eq : Try.f33.body.map comp = some c33 := by kernel_rfl
theorem c33_n : Try.f33.ntmps = 36 := by kernel_rfl
theorem c33_rs : Try.f33.results.toList = [.tmp 4] := by kernel_rfl
def c34_r0 : List GOp := [⟨none, (some 4), (.assign (.const (.bool false)))⟩]
def c34_r1 : List GOp := [⟨none, (some 6), (.move (.tmp 0))⟩,
  ⟨none, (some 7), (.call { callee := (.builtin .len), args := #[(.tmp 6)], argTypes := #[24] })⟩,
  ⟨none, (some 8), (.move (.tmp 1))⟩,
  ⟨none, (some 9), (.call { callee := (.builtin .len), args := #[(.tmp 8)], argTypes := #[24] })⟩,
  ⟨none, (some 10), (.binOp .neq 3 (.tmp 7) (.tmp 9) 3)⟩]
def c34_r2 : List GOp := [⟨none, (some 4), (.assign (.const (.bool false)))⟩]
def c34_r3 : List GOp := [⟨none, (some 11), (.move (.tmp 0))⟩,
  ⟨none, (some 12), (.call { callee := (.builtin .len), args := #[(.tmp 11)], argTypes := #[24] })⟩,
  ⟨none, (some 13), (.move (.const (.int .i64 0)))⟩]
def c34_r4 : List GOp := [⟨none, (some 14), (.binOp .lss 3 (.tmp 13) (.tmp 12) 3)⟩]
def c34_r5 : List GOp := [⟨none, (some 15), (.move (.tmp 13))⟩,
  ⟨none, (some 5), (.assign (.tmp 15))⟩]
def c34_d6_ops : Array Oper := #[{ dst := (some 16), op := (.move (.tmp 0)), type := 24, pos := "slices.go:25", after := #[], guard := none },
  { dst := (some 17), op := (.move (.tmp 5)), type := 3, pos := "slices.go:25", after := #[], guard := none },
  { dst := (some 18), op := (.indexAddr 24 (.tmp 16) (.tmp 17)), type := 0, pos := "slices.go:25", after := #[⟨0, .data⟩, ⟨1, .data⟩], guard := none },
  { dst := (some 19), op := (.load 5 (.tmp 18)), type := 5, pos := "slices.go:25", after := #[⟨2, .data⟩], guard := none },
  { dst := (some 20), op := (.move (.tmp 1)), type := 24, pos := "slices.go:25", after := #[], guard := none },
  { dst := (some 21), op := (.move (.tmp 5)), type := 3, pos := "slices.go:25", after := #[], guard := none },
  { dst := (some 22), op := (.indexAddr 24 (.tmp 20) (.tmp 21)), type := 0, pos := "slices.go:25", after := #[⟨4, .data⟩, ⟨5, .data⟩], guard := none },
  { dst := (some 23), op := (.load 5 (.tmp 22)), type := 5, pos := "slices.go:25", after := #[⟨6, .data⟩], guard := none },
  { dst := (some 24), op := (.binOp .neq 5 (.tmp 19) (.tmp 23) 5), type := 4, pos := "slices.go:25", after := #[⟨3, .data⟩, ⟨7, .data⟩], guard := none }]
def c34_d6 : Code := .region 6 c34_d6_ops true
def c34_r7 : List GOp := [⟨none, (some 4), (.assign (.const (.bool false)))⟩]
def c34_r8 : List GOp := [⟨none, (some 25), (.binOp .add 3 (.tmp 13) (.const (.int .i64 1)) 3)⟩,
  ⟨none, (some 13), (.move (.tmp 25))⟩]
def c34_l0 : AC := (.seq (.reg c34_r4) (.seq (.cond (.tmp 14) .skip (.exit 0)) (.seq (.block 1 (.seq (.reg c34_r5) (.seq (.raw c34_d6) (.cond (.tmp 24) (.seq (.reg c34_r7) .ret) .skip)))) (.reg c34_r8))))
def c34_r9 : List GOp := [⟨none, (some 4), (.assign (.const (.bool true)))⟩]
/-- slices.Equal[[]byte,byte] -/
def c34 : AC := (.seq (.reg c34_r0) (.seq (.seq (.reg c34_r1) (.cond (.tmp 10) (.seq (.reg c34_r2) .ret) .skip)) (.seq (.seq (.reg c34_r3) (.block 0 (.loop c34_l0))) (.seq (.reg c34_r9) .ret))))
theorem c34_eq : Try.f34.body.map comp = some c34 := by kernel_rfl
theorem c34_n : Try.f34.ntmps = 26 := by kernel_rfl
theorem c34_rs : Try.f34.results.toList = [.tmp 4] := by kernel_rfl
def c35_r0 : List GOp := [⟨none, (some 2), (.assign (.const (.int .i64 0)))⟩]
def c35_r1 : List GOp := [⟨none, (some 3), (.assign (.const (.int .i64 0)))⟩]
def c35_r2 : List GOp := [⟨none, (some 4), (.assign (.const (.int .i64 0)))⟩]
def c35_r3 : List GOp := [⟨none, (some 5), (.move (.tmp 4))⟩,
  ⟨none, (some 6), (.move (.tmp 0))⟩,
  ⟨none, (some 7), (.call { callee := (.builtin .len), args := #[(.tmp 6)], argTypes := #[24] })⟩,
  ⟨none, (some 8), (.binOp .lss 3 (.tmp 5) (.tmp 7) 3)⟩]
def c35_r5 : List GOp := [⟨none, (some 11), (.move (.tmp 3))⟩,
  ⟨none, (some 12), (.binOp .shl 3 (.tmp 11) (.const (.int .u64 8)) 87)⟩,
  ⟨none, (some 13), (.move (.tmp 0))⟩,
  ⟨none, (some 14), (.move (.tmp 4))⟩,
  ⟨none, (some 15), (.indexAddr 24 (.tmp 13) (.tmp 14))⟩,
  ⟨none, (some 16), (.load 5 (.tmp 15))⟩,
  ⟨none, (some 17), (.convert 5 3 (.tmp 16))⟩,
  ⟨none, (some 18), (.binOp .or 3 (.tmp 12) (.tmp 17) 3)⟩,
  ⟨none, (some 3), (.assign (.tmp 18))⟩]
def c35_r4 : List GOp := [⟨none, (some 9), (.move (.tmp 4))⟩,
  ⟨none, (some 10), (.binOp .add 3 (.tmp 9) (.const (.int .i64 1)) 3)⟩,
  ⟨none, (some 4), (.assign (.tmp 10))⟩]
def c35_l0 : AC := (.seq (.seq (.reg c35_r3) (.cond (.tmp 8) .skip (.exit 0))) (.seq (.block 1 (.reg c35_r5)) (.reg c35_r4)))
def c35_r6 : List GOp := [⟨none, (some 19), (.move (.tmp 3))⟩,
  ⟨none, (some 2), (.assign (.tmp 19))⟩]
/-- corbel/corbelref7.From -/
def c35 : AC := (.seq (.reg c35_r0) (.seq (.reg c35_r1) (.seq (.seq (.reg c35_r2) (.block 0 (.loop c35_l0))) (.seq (.reg c35_r6) .ret))))
theorem c35_eq : Try.f35.body.map comp = some c35 := by kernel_rfl
theorem c35_n : Try.f35.ntmps = 20 := by kernel_rfl
theorem c35_rs : Try.f35.results.toList = [.tmp 2] := by kernel_rfl
def c36_r0 : List GOp := [⟨none, (some 1), (.box 47 (.tmp 0))⟩,
  ⟨none, (some 2), (.assign (.const (.bool false)))⟩]
def c36_r1 : List GOp := [⟨none, (some 4), (.fieldAddr 47 (.tmp 1) 2)⟩,
  ⟨none, (some 5), (.load 44 (.tmp 4))⟩,
  ⟨none, (some 6), (.call { callee := (.value (.func 48)), args := #[(.tmp 5), (.func 49)], argTypes := #[44, 78] })⟩,
  ⟨none, (some 7), (.move (.tmp 6))⟩,
  ⟨(some (7, false)), (some 8), (.fieldAddr 47 (.tmp 1) 3)⟩,
  ⟨(some (7, false)), (some 9), (.load 45 (.tmp 8))⟩,
  ⟨(some (7, false)), (some 10), (.call { callee := (.value (.func 51)), args := #[(.tmp 9), (.func 52)], argTypes := #[45, 79] })⟩,
  ⟨none, (some 11), (.pick (.tmp 7) (.const (.bool true)) (.tmp 10))⟩,
  ⟨none, (some 3), (.assign (.tmp 11))⟩]
def c36_r2 : List GOp := [⟨none, (some 12), (.fieldAddr 47 (.tmp 1) 0)⟩,
  ⟨none, (some 13), (.load 30 (.tmp 12))⟩,
  ⟨none, (some 14), (.call { callee := (.value (.func 27)), args := #[(.tmp 13), (.const (.int .i64 0)), (.const (.int .i64 255))], argTypes := #[3, 3, 3] })⟩,
  ⟨none, (some 15), (.move (.tmp 14))⟩,
  ⟨(some (15, true)), (some 16), (.fieldAddr 47 (.tmp 1) 1)⟩,
  ⟨(some (15, true)), (some 17), (.load 3 (.tmp 16))⟩,
  ⟨(some (15, true)), (some 18), (.call { callee := (.value (.func 27)), args := #[(.tmp 17), (.const (.int .i64 0)), (.const (.int .i64 2147483647))], argTypes := #[3, 3, 3] })⟩,
  ⟨none, (some 19), (.pick (.tmp 15) (.tmp 18) (.const (.bool false)))⟩,
  ⟨none, (some 20), (.move (.tmp 19))⟩,
  ⟨(some (20, true)), (some 21), (.fieldAddr 47 (.tmp 1) 2)⟩,
  ⟨(some (20, true)), (some 22), (.load 44 (.tmp 21))⟩,
  ⟨(some (20, true)), (some 23), (.call { callee := (.builtin .len), args := #[(.tmp 22)], argTypes := #[44] })⟩,
  ⟨(some (20, true)), (some 24), (.binOp .leq 3 (.tmp 23) (.const (.int .i64 2)) 3)⟩,
  ⟨none, (some 25), (.pick (.tmp 20) (.tmp 24) (.const (.bool false)))⟩,
  ⟨none, (some 26), (.move (.tmp 25))⟩,
  ⟨(some (26, true)), (some 27), (.fieldAddr 47 (.tmp 1) 3)⟩,
  ⟨(some (26, true)), (some 28), (.load 45 (.tmp 27))⟩,
  ⟨(some (26, true)), (some 29), (.call { callee := (.builtin .len), args := #[(.tmp 28)], argTypes := #[45] })⟩,
  ⟨(some (26, true)), (some 30), (.binOp .leq 3 (.tmp 29) (.const (.int .i64 16)) 3)⟩,
  ⟨none, (some 31), (.pick (.tmp 26) (.tmp 30) (.const (.bool false)))⟩,
  ⟨none, (some 32), (.move (.tmp 31))⟩,
  ⟨(some (32, true)), (some 33), (.move (.tmp 3))⟩,
  ⟨(some (32, true)), (some 34), (.unOp .not 4 (.tmp 33))⟩,
  ⟨none, (some 35), (.pick (.tmp 32) (.tmp 34) (.const (.bool false)))⟩,
  ⟨none, (some 2), (.assign (.tmp 35))⟩]
/-- corbel/call.right -/
def c36 : AC := (.seq (.reg c36_r0) (.seq (.reg c36_r1) (.seq (.reg c36_r2) .ret)))
theorem c36_eq : Try.f36.body.map comp = some c36 := by kernel_rfl
theorem c36_n : Try.f36.ntmps = 36 := by kernel_rfl
theorem c36_rs : Try.f36.results.toList = [.tmp 2] := by kernel_rfl
def c37_r0 : List GOp := [⟨none, (some 4), (.assign (.const (.bool false)))⟩]
def c37_r1 : List GOp := [⟨none, (some 6), (.move (.tmp 0))⟩,
  ⟨none, (some 7), (.call { callee := (.builtin .len), args := #[(.tmp 6)], argTypes := #[44] })⟩,
  ⟨none, (some 8), (.move (.tmp 1))⟩,
  ⟨none, (some 9), (.call { callee := (.builtin .len), args := #[(.tmp 8)], argTypes := #[44] })⟩,
  ⟨none, (some 10), (.binOp .neq 3 (.tmp 7) (.tmp 9) 3)⟩]
def c37_r2 : List GOp := [⟨none, (some 4), (.assign (.const (.bool false)))⟩]
def c37_r3 : List GOp := [⟨none, (some 5), (.assign (.const (.int .i64 0)))⟩]
def c37_r4 : List GOp := [⟨none, (some 11), (.move (.tmp 5))⟩,
  ⟨none, (some 12), (.move (.tmp 0))⟩,
  ⟨none, (some 13), (.call { callee := (.builtin .len), args := #[(.tmp 12)], argTypes := #[44] })⟩,
  ⟨none, (some 14), (.binOp .lss 3 (.tmp 11) (.tmp 13) 3)⟩]
def c37_d6_ops : Array Oper := #[{ dst := (some 17), op := (.move (.tmp 0)), type := 44, pos := "ref.go:149", after := #[], guard := none },
  { dst := (some 18), op := (.move (.tmp 5)), type := 3, pos := "ref.go:149", after := #[], guard := none },
  { dst := (some 19), op := (.indexAddr 44 (.tmp 17) (.tmp 18)), type := 0, pos := "ref.go:149", after := #[⟨0, .data⟩, ⟨1, .data⟩], guard := none },
  { dst := (some 20), op := (.load 49 (.tmp 19)), type := 49, pos := "ref.go:149", after := #[⟨2, .data⟩], guard := none },
  { dst := (some 21), op := (.move (.tmp 1)), type := 44, pos := "ref.go:149", after := #[], guard := none },
  { dst := (some 22), op := (.move (.tmp 5)), type := 3, pos := "ref.go:149", after := #[], guard := none },
  { dst := (some 23), op := (.indexAddr 44 (.tmp 21) (.tmp 22)), type := 0, pos := "ref.go:149", after := #[⟨4, .data⟩, ⟨5, .data⟩], guard := none },
  { dst := (some 24), op := (.load 49 (.tmp 23)), type := 49, pos := "ref.go:149", after := #[⟨6, .data⟩], guard := none },
  { dst := (some 25), op := (.call { callee := (.value (.func 54)), args := #[(.tmp 20), (.tmp 24)], argTypes := #[49, 49] }), type := 4, pos := "ref.go:149", after := #[⟨3, .data⟩, ⟨7, .data⟩], guard := none },
  { dst := (some 26), op := (.unOp .not 4 (.tmp 25)), type := 4, pos := "ref.go:149", after := #[⟨8, .data⟩], guard := none }]
def c37_d6 : Code := .region 6 c37_d6_ops true
def c37_r7 : List GOp := [⟨none, (some 4), (.assign (.const (.bool false)))⟩]
def c37_r5 : List GOp := [⟨none, (some 15), (.move (.tmp 5))⟩,
  ⟨none, (some 16), (.binOp .add 3 (.tmp 15) (.const (.int .i64 1)) 3)⟩,
  ⟨none, (some 5), (.assign (.tmp 16))⟩]
def c37_l0 : AC := (.seq (.seq (.reg c37_r4) (.cond (.tmp 14) .skip (.exit 0))) (.seq (.block 1 (.seq (.raw c37_d6) (.cond (.tmp 26) (.seq (.reg c37_r7) .ret) .skip))) (.reg c37_r5)))
def c37_r8 : List GOp := [⟨none, (some 4), (.assign (.const (.bool true)))⟩]
/-- corbel/corbelref7.SamePieces -/
def c37 : AC := (.seq (.reg c37_r0) (.seq (.seq (.reg c37_r1) (.cond (.tmp 10) (.seq (.reg c37_r2) .ret) .skip)) (.seq (.seq (.reg c37_r3) (.block 0 (.loop c37_l0))) (.seq (.reg c37_r8) .ret))))
theorem c37_eq : Try.f37.body.map comp = some c37 := by kernel_rfl
theorem c37_n : Try.f37.ntmps = 27 := by kernel_rfl
theorem c37_rs : Try.f37.results.toList = [.tmp 4] := by kernel_rfl
def c38_r0 : List GOp := [⟨none, (some 4), (.assign (.const (.bool false)))⟩]
def c38_r1 : List GOp := [⟨none, (some 6), (.move (.tmp 0))⟩,
  ⟨none, (some 7), (.call { callee := (.builtin .len), args := #[(.tmp 6)], argTypes := #[45] })⟩,
  ⟨none, (some 8), (.move (.tmp 1))⟩,
  ⟨none, (some 9), (.call { callee := (.builtin .len), args := #[(.tmp 8)], argTypes := #[45] })⟩,
  ⟨none, (some 10), (.binOp .neq 3 (.tmp 7) (.tmp 9) 3)⟩]
def c38_r2 : List GOp := [⟨none, (some 4), (.assign (.const (.bool false)))⟩]
def c38_r3 : List GOp := [⟨none, (some 5), (.assign (.const (.int .i64 0)))⟩]
def c38_r4 : List GOp := [⟨none, (some 11), (.move (.tmp 5))⟩,
  ⟨none, (some 12), (.move (.tmp 0))⟩,
  ⟨none, (some 13), (.call { callee := (.builtin .len), args := #[(.tmp 12)], argTypes := #[45] })⟩,
  ⟨none, (some 14), (.binOp .lss 3 (.tmp 11) (.tmp 13) 3)⟩]
def c38_d6_ops : Array Oper := #[{ dst := (some 17), op := (.move (.tmp 0)), type := 45, pos := "ref.go:208", after := #[], guard := none },
  { dst := (some 18), op := (.move (.tmp 5)), type := 3, pos := "ref.go:208", after := #[], guard := none },
  { dst := (some 19), op := (.indexAddr 45 (.tmp 17) (.tmp 18)), type := 0, pos := "ref.go:208", after := #[⟨0, .data⟩, ⟨1, .data⟩], guard := none },
  { dst := (some 20), op := (.load 52 (.tmp 19)), type := 52, pos := "ref.go:208", after := #[⟨2, .data⟩], guard := none },
  { dst := (some 21), op := (.move (.tmp 1)), type := 45, pos := "ref.go:208", after := #[], guard := none },
  { dst := (some 22), op := (.move (.tmp 5)), type := 3, pos := "ref.go:208", after := #[], guard := none },
  { dst := (some 23), op := (.indexAddr 45 (.tmp 21) (.tmp 22)), type := 0, pos := "ref.go:208", after := #[⟨4, .data⟩, ⟨5, .data⟩], guard := none },
  { dst := (some 24), op := (.load 52 (.tmp 23)), type := 52, pos := "ref.go:208", after := #[⟨6, .data⟩], guard := none },
  { dst := (some 25), op := (.call { callee := (.value (.func 55)), args := #[(.tmp 20), (.tmp 24)], argTypes := #[52, 52] }), type := 4, pos := "ref.go:208", after := #[⟨3, .data⟩, ⟨7, .data⟩], guard := none },
  { dst := (some 26), op := (.unOp .not 4 (.tmp 25)), type := 4, pos := "ref.go:208", after := #[⟨8, .data⟩], guard := none }]
def c38_d6 : Code := .region 6 c38_d6_ops true
def c38_r7 : List GOp := [⟨none, (some 4), (.assign (.const (.bool false)))⟩]
def c38_r5 : List GOp := [⟨none, (some 15), (.move (.tmp 5))⟩,
  ⟨none, (some 16), (.binOp .add 3 (.tmp 15) (.const (.int .i64 1)) 3)⟩,
  ⟨none, (some 5), (.assign (.tmp 16))⟩]
def c38_l0 : AC := (.seq (.seq (.reg c38_r4) (.cond (.tmp 14) .skip (.exit 0))) (.seq (.block 1 (.seq (.raw c38_d6) (.cond (.tmp 26) (.seq (.reg c38_r7) .ret) .skip))) (.reg c38_r5)))
def c38_r8 : List GOp := [⟨none, (some 4), (.assign (.const (.bool true)))⟩]
/-- corbel/corbelref7.SameIntents -/
def c38 : AC := (.seq (.reg c38_r0) (.seq (.seq (.reg c38_r1) (.cond (.tmp 10) (.seq (.reg c38_r2) .ret) .skip)) (.seq (.seq (.reg c38_r3) (.block 0 (.loop c38_l0))) (.seq (.reg c38_r8) .ret))))
theorem c38_eq : Try.f38.body.map comp = some c38 := by kernel_rfl
theorem c38_n : Try.f38.ntmps = 27 := by kernel_rfl
theorem c38_rs : Try.f38.results.toList = [.tmp 4] := by kernel_rfl
def c39_r0 : List GOp := [⟨none, (some 1), (.box 49 (.tmp 0))⟩,
  ⟨none, (some 2), (.assign (.const (.bool false)))⟩]
def c39_r1 : List GOp := [⟨none, (some 3), (.fieldAddr 49 (.tmp 1) 0)⟩,
  ⟨none, (some 4), (.load 3 (.tmp 3))⟩,
  ⟨none, (some 5), (.binOp .geq 3 (.tmp 4) (.const (.int .i64 0)) 3)⟩,
  ⟨none, (some 6), (.move (.tmp 5))⟩,
  ⟨(some (6, true)), (some 7), (.fieldAddr 49 (.tmp 1) 0)⟩,
  ⟨(some (6, true)), (some 8), (.load 3 (.tmp 7))⟩,
  ⟨(some (6, true)), (some 9), (.binOp .lss 3 (.tmp 8) (.const (.int .i64 40)) 3)⟩,
  ⟨none, (some 10), (.pick (.tmp 6) (.tmp 9) (.const (.bool false)))⟩,
  ⟨none, (some 11), (.move (.tmp 10))⟩,
  ⟨(some (11, true)), (some 12), (.fieldAddr 49 (.tmp 1) 1)⟩,
  ⟨(some (11, true)), (some 13), (.load 3 (.tmp 12))⟩,
  ⟨(some (11, true)), (some 14), (.binOp .geq 3 (.tmp 13) (.const (.int .i64 1)) 3)⟩,
  ⟨none, (some 15), (.pick (.tmp 11) (.tmp 14) (.const (.bool false)))⟩,
  ⟨none, (some 16), (.move (.tmp 15))⟩,
  ⟨(some (16, true)), (some 17), (.fieldAddr 49 (.tmp 1) 1)⟩,
  ⟨(some (16, true)), (some 18), (.load 3 (.tmp 17))⟩,
  ⟨(some (16, true)), (some 19), (.binOp .leq 3 (.tmp 18) (.const (.int .i64 1099511627776)) 3)⟩,
  ⟨none, (some 20), (.pick (.tmp 16) (.tmp 19) (.const (.bool false)))⟩,
  ⟨none, (some 21), (.move (.tmp 20))⟩,
  ⟨(some (21, true)), (some 22), (.fieldAddr 49 (.tmp 1) 2)⟩,
  ⟨(some (21, true)), (some 23), (.load 3 (.tmp 22))⟩,
  ⟨(some (21, true)), (some 24), (.binOp .geq 3 (.tmp 23) (.const (.int .i64 0)) 3)⟩,
  ⟨none, (some 25), (.pick (.tmp 21) (.tmp 24) (.const (.bool false)))⟩,
  ⟨none, (some 26), (.move (.tmp 25))⟩,
  ⟨(some (26, true)), (some 27), (.fieldAddr 49 (.tmp 1) 2)⟩,
  ⟨(some (26, true)), (some 28), (.load 3 (.tmp 27))⟩,
  ⟨(some (26, true)), (some 29), (.binOp .lss 3 (.tmp 28) (.const (.int .i64 6)) 3)⟩,
  ⟨none, (some 30), (.pick (.tmp 26) (.tmp 29) (.const (.bool false)))⟩,
  ⟨none, (some 31), (.move (.tmp 30))⟩,
  ⟨(some (31, true)), (some 32), (.fieldAddr 49 (.tmp 1) 3)⟩,
  ⟨(some (31, true)), (some 33), (.load 24 (.tmp 32))⟩,
  ⟨(some (31, true)), (some 34), (.call { callee := (.builtin .len), args := #[(.tmp 33)], argTypes := #[24] })⟩,
  ⟨(some (31, true)), (some 35), (.binOp .eql 3 (.tmp 34) (.const (.int .i64 32)) 3)⟩,
  ⟨none, (some 36), (.pick (.tmp 31) (.tmp 35) (.const (.bool false)))⟩,
  ⟨none, (some 2), (.assign (.tmp 36))⟩]
/-- corbel/corbelref7.RightPiece -/
def c39 : AC := (.seq (.reg c39_r0) (.seq (.reg c39_r1) .ret))
theorem c39_eq : Try.f39.body.map comp = some c39 := by kernel_rfl
theorem c39_n : Try.f39.ntmps = 37 := by kernel_rfl
theorem c39_rs : Try.f39.results.toList = [.tmp 2] := by kernel_rfl
def c40_r0 : List GOp := [⟨none, (some 1), (.box 52 (.tmp 0))⟩,
  ⟨none, (some 2), (.assign (.const (.bool false)))⟩]
def c40_r1 : List GOp := [⟨none, (some 3), (.fieldAddr 52 (.tmp 1) 0)⟩,
  ⟨none, (some 4), (.load 3 (.tmp 3))⟩,
  ⟨none, (some 5), (.binOp .geq 3 (.tmp 4) (.const (.int .i64 0)) 3)⟩,
  ⟨none, (some 6), (.move (.tmp 5))⟩,
  ⟨(some (6, true)), (some 7), (.fieldAddr 52 (.tmp 1) 0)⟩,
  ⟨(some (6, true)), (some 8), (.load 3 (.tmp 7))⟩,
  ⟨(some (6, true)), (some 9), (.binOp .lss 3 (.tmp 8) (.const (.int .i64 40)) 3)⟩,
  ⟨none, (some 10), (.pick (.tmp 6) (.tmp 9) (.const (.bool false)))⟩,
  ⟨none, (some 11), (.move (.tmp 10))⟩,
  ⟨(some (11, true)), (some 12), (.fieldAddr 52 (.tmp 1) 1)⟩,
  ⟨(some (11, true)), (some 13), (.load 3 (.tmp 12))⟩,
  ⟨(some (11, true)), (some 14), (.binOp .geq 3 (.tmp 13) (.const (.int .i64 1)) 3)⟩,
  ⟨none, (some 15), (.pick (.tmp 11) (.tmp 14) (.const (.bool false)))⟩,
  ⟨none, (some 16), (.move (.tmp 15))⟩,
  ⟨(some (16, true)), (some 17), (.fieldAddr 52 (.tmp 1) 1)⟩,
  ⟨(some (16, true)), (some 18), (.load 3 (.tmp 17))⟩,
  ⟨(some (16, true)), (some 19), (.binOp .leq 3 (.tmp 18) (.const (.int .i64 1099511627776)) 3)⟩,
  ⟨none, (some 20), (.pick (.tmp 16) (.tmp 19) (.const (.bool false)))⟩,
  ⟨none, (some 21), (.move (.tmp 20))⟩,
  ⟨(some (21, true)), (some 22), (.fieldAddr 52 (.tmp 1) 2)⟩,
  ⟨(some (21, true)), (some 23), (.load 24 (.tmp 22))⟩,
  ⟨(some (21, true)), (some 24), (.call { callee := (.builtin .len), args := #[(.tmp 23)], argTypes := #[24] })⟩,
  ⟨(some (21, true)), (some 25), (.binOp .eql 3 (.tmp 24) (.const (.int .i64 128)) 3)⟩,
  ⟨none, (some 26), (.pick (.tmp 21) (.tmp 25) (.const (.bool false)))⟩,
  ⟨none, (some 2), (.assign (.tmp 26))⟩]
/-- corbel/corbelref7.RightIntent -/
def c40 : AC := (.seq (.reg c40_r0) (.seq (.reg c40_r1) .ret))
theorem c40_eq : Try.f40.body.map comp = some c40 := by kernel_rfl
theorem c40_n : Try.f40.ntmps = 27 := by kernel_rfl
theorem c40_rs : Try.f40.results.toList = [.tmp 2] := by kernel_rfl
def c41_r0 : List GOp := [⟨none, (some 1), (.box 49 (.tmp 0))⟩,
  ⟨none, (some 2), (.assign (.const (.slice none 0 0)))⟩]
def c41_d1_ops : Array Oper := #[{ dst := (some 4), op := (.fieldAddr 49 (.tmp 1) 0), type := 0, pos := "ref.go:111", after := #[], guard := none },
  { dst := (some 5), op := (.load 3 (.tmp 4)), type := 3, pos := "ref.go:111", after := #[⟨0, .data⟩], guard := none },
  { dst := (some 6), op := (.call { callee := (.value (.func 30)), args := #[(.tmp 5), (.const (.int .i64 1))], argTypes := #[3, 3] }), type := 24, pos := "ref.go:111", after := #[⟨1, .data⟩], guard := none },
  { dst := (some 7), op := (.fieldAddr 49 (.tmp 1) 1), type := 0, pos := "ref.go:111", after := #[], guard := none },
  { dst := (some 8), op := (.load 3 (.tmp 7)), type := 3, pos := "ref.go:111", after := #[⟨3, .data⟩], guard := none },
  { dst := (some 9), op := (.call { callee := (.value (.func 30)), args := #[(.tmp 8), (.const (.int .i64 6))], argTypes := #[3, 3] }), type := 24, pos := "ref.go:111", after := #[⟨4, .data⟩, ⟨2, .chain⟩], guard := none },
  { dst := (some 10), op := (.call { callee := (.builtin .append), args := #[(.tmp 6), (.tmp 9)], argTypes := #[24, 24] }), type := 24, pos := "ref.go:111", after := #[⟨2, .data⟩, ⟨5, .data⟩, ⟨5, .chain⟩], guard := none },
  { dst := (some 3), op := (.assign (.tmp 10)), type := 24, pos := "ref.go:111", after := #[⟨6, .data⟩, ⟨6, .chain⟩, ⟨0, .phase⟩, ⟨1, .phase⟩, ⟨2, .phase⟩, ⟨3, .phase⟩, ⟨4, .phase⟩, ⟨5, .phase⟩, ⟨6, .phase⟩], guard := none }]
def c41_d1 : Code := .region 1 c41_d1_ops true
def c41_r2 : List GOp := [⟨none, (some 11), (.move (.tmp 3))⟩,
  ⟨none, (some 12), (.fieldAddr 49 (.tmp 1) 2)⟩,
  ⟨none, (some 13), (.load 3 (.tmp 12))⟩,
  ⟨none, (some 14), (.convert 3 5 (.tmp 13))⟩,
  ⟨none, (some 15), (.buildSlice 24 1 #[(0, (.tmp 14))])⟩,
  ⟨none, (some 16), (.call { callee := (.builtin .append), args := #[(.tmp 11), (.tmp 15)], argTypes := #[24, 24] })⟩,
  ⟨none, (some 3), (.assign (.tmp 16))⟩]
def c41_r3 : List GOp := [⟨none, (some 17), (.move (.tmp 3))⟩,
  ⟨none, (some 18), (.fieldAddr 49 (.tmp 1) 3)⟩,
  ⟨none, (some 19), (.load 24 (.tmp 18))⟩,
  ⟨none, (some 20), (.call { callee := (.builtin .append), args := #[(.tmp 17), (.tmp 19)], argTypes := #[24, 24] })⟩,
  ⟨none, (some 2), (.assign (.tmp 20))⟩]
/-- corbel/corbelref7.pieceBytes -/
def c41 : AC := (.seq (.reg c41_r0) (.seq (.raw c41_d1) (.seq (.reg c41_r2) (.seq (.reg c41_r3) .ret))))
theorem c41_eq : Try.f41.body.map comp = some c41 := by kernel_rfl
theorem c41_n : Try.f41.ntmps = 21 := by kernel_rfl
theorem c41_rs : Try.f41.results.toList = [.tmp 2] := by kernel_rfl
def c42_r0 : List GOp := [⟨none, (some 2), (.alloc 49)⟩]
def c42_d1_ops : Array Oper := #[{ dst := (some 3), op := (.move (.tmp 0)), type := 24, pos := "ref.go:124", after := #[], guard := none },
  { dst := (some 4), op := (.indexAddr 24 (.tmp 3) (.const (.int .i64 0))), type := 0, pos := "ref.go:124", after := #[⟨0, .data⟩], guard := none },
  { dst := (some 5), op := (.load 5 (.tmp 4)), type := 5, pos := "ref.go:124", after := #[⟨1, .data⟩], guard := none },
  { dst := (some 6), op := (.convert 5 3 (.tmp 5)), type := 3, pos := "ref.go:124", after := #[⟨2, .data⟩], guard := none },
  { dst := (some 7), op := (.move (.tmp 0)), type := 24, pos := "ref.go:124", after := #[], guard := none },
  { dst := (some 8), op := (.slice 24 (.tmp 7) (some (.const (.int .i64 1))) (some (.const (.int .i64 7))) none), type := 24, pos := "ref.go:124", after := #[⟨4, .data⟩], guard := none },
  { dst := (some 9), op := (.call { callee := (.value (.func 35)), args := #[(.tmp 8)], argTypes := #[24] }), type := 3, pos := "ref.go:124", after := #[⟨5, .data⟩], guard := none },
  { dst := (some 10), op := (.move (.tmp 0)), type := 24, pos := "ref.go:124", after := #[], guard := none },
  { dst := (some 11), op := (.indexAddr 24 (.tmp 10) (.const (.int .i64 7))), type := 0, pos := "ref.go:124", after := #[⟨7, .data⟩], guard := none },
  { dst := (some 12), op := (.load 5 (.tmp 11)), type := 5, pos := "ref.go:124", after := #[⟨8, .data⟩], guard := none },
  { dst := (some 13), op := (.convert 5 3 (.tmp 12)), type := 3, pos := "ref.go:124", after := #[⟨9, .data⟩], guard := none },
  { dst := (some 14), op := (.buildSlice 24 0 #[]), type := 24, pos := "ref.go:124", after := #[], guard := none },
  { dst := (some 15), op := (.move (.tmp 0)), type := 24, pos := "ref.go:124", after := #[], guard := none },
  { dst := (some 16), op := (.slice 24 (.tmp 15) (some (.const (.int .i64 8))) none none), type := 24, pos := "ref.go:124", after := #[⟨12, .data⟩], guard := none },
  { dst := (some 17), op := (.call { callee := (.builtin .append), args := #[(.tmp 14), (.tmp 16)], argTypes := #[24, 24] }), type := 24, pos := "ref.go:124", after := #[⟨11, .data⟩, ⟨13, .data⟩, ⟨6, .chain⟩], guard := none },
  { dst := (some 18), op := (.build 49 #[(0, (.tmp 6)), (1, (.tmp 9)), (2, (.tmp 13)), (3, (.tmp 17))]), type := 49, pos := "ref.go:124", after := #[⟨3, .data⟩, ⟨6, .data⟩, ⟨10, .data⟩, ⟨14, .data⟩], guard := none },
  { dst := none, op := (.store 49 (.tmp 2) (.tmp 18)), type := 0, pos := "ref.go:124", after := #[⟨15, .data⟩, ⟨14, .chain⟩, ⟨0, .phase⟩, ⟨1, .phase⟩, ⟨2, .phase⟩, ⟨3, .phase⟩, ⟨4, .phase⟩, ⟨5, .phase⟩, ⟨6, .phase⟩, ⟨7, .phase⟩, ⟨8, .phase⟩, ⟨9, .phase⟩, ⟨10, .phase⟩, ⟨11, .phase⟩, ⟨12, .phase⟩, ⟨13, .phase⟩, ⟨14, .phase⟩, ⟨15, .phase⟩], guard := none }]
def c42_d1 : Code := .region 1 c42_d1_ops true
/-- corbel/corbelref7.piece -/
def c42 : AC := (.seq (.reg c42_r0) (.seq (.raw c42_d1) .ret))
theorem c42_eq : Try.f42.body.map comp = some c42 := by kernel_rfl
theorem c42_n : Try.f42.ntmps = 19 := by kernel_rfl
theorem c42_rs : Try.f42.results.toList = [.cell 2 49] := by kernel_rfl
def c43_r0 : List GOp := [⟨none, (some 6), (.assign (.const (.bool false)))⟩]
def c43_r1 : List GOp := [⟨none, (some 10), (.move (.tmp 0))⟩,
  ⟨none, (some 11), (.call { callee := (.builtin .len), args := #[(.tmp 10)], argTypes := #[44] })⟩,
  ⟨none, (some 12), (.move (.tmp 1))⟩,
  ⟨none, (some 13), (.call { callee := (.builtin .len), args := #[(.tmp 12)], argTypes := #[44] })⟩,
  ⟨none, (some 14), (.binOp .neq 3 (.tmp 11) (.tmp 13) 3)⟩]
def c43_r2 : List GOp := [⟨none, (some 6), (.assign (.const (.bool false)))⟩]
def c43_r3 : List GOp := [⟨none, (some 15), (.move (.tmp 0))⟩,
  ⟨none, (some 16), (.call { callee := (.builtin .len), args := #[(.tmp 15)], argTypes := #[44] })⟩,
  ⟨none, (some 17), (.move (.const (.int .i64 0)))⟩]
def c43_r4 : List GOp := [⟨none, (some 18), (.binOp .lss 3 (.tmp 17) (.tmp 16) 3)⟩]
def c43_r5 : List GOp := [⟨none, (some 19), (.move (.tmp 17))⟩,
  ⟨none, (some 20), (.indexAddr 44 (.tmp 15) (.tmp 17))⟩,
  ⟨none, (some 21), (.load 49 (.tmp 20))⟩,
  ⟨none, (some 8), (.alloc 49)⟩,
  ⟨none, (some 7), (.assign (.tmp 19))⟩,
  ⟨none, none, (.store 49 (.tmp 8) (.tmp 21))⟩]
def c43_r6 : List GOp := [⟨none, (some 22), (.move (.tmp 1))⟩,
  ⟨none, (some 23), (.move (.tmp 7))⟩,
  ⟨none, (some 24), (.indexAddr 44 (.tmp 22) (.tmp 23))⟩,
  ⟨none, (some 25), (.load 49 (.tmp 24))⟩,
  ⟨none, (some 9), (.alloc 49)⟩,
  ⟨none, none, (.store 49 (.tmp 9) (.tmp 25))⟩]
def c43_r7 : List GOp := [⟨none, (some 26), (.move (.tmp 2))⟩,
  ⟨none, (some 27), (.load 49 (.tmp 8))⟩,
  ⟨none, (some 28), (.load 49 (.tmp 9))⟩,
  ⟨none, (some 29), (.call { callee := (.value (.tmp 26)), args := #[(.tmp 27), (.tmp 28)], argTypes := #[49, 49] })⟩,
  ⟨none, (some 30), (.unOp .not 4 (.tmp 29))⟩]
def c43_r8 : List GOp := [⟨none, (some 6), (.assign (.const (.bool false)))⟩]
def c43_r9 : List GOp := [⟨none, (some 31), (.binOp .add 3 (.tmp 17) (.const (.int .i64 1)) 3)⟩,
  ⟨none, (some 17), (.move (.tmp 31))⟩]
def c43_l0 : AC := (.seq (.reg c43_r4) (.seq (.cond (.tmp 18) .skip (.exit 0)) (.seq (.block 1 (.seq (.reg c43_r5) (.seq (.reg c43_r6) (.seq (.reg c43_r7) (.cond (.tmp 30) (.seq (.reg c43_r8) .ret) .skip))))) (.reg c43_r9))))
def c43_r10 : List GOp := [⟨none, (some 6), (.assign (.const (.bool true)))⟩]
/-- slices.EqualFunc[[]corbel/api.Piece,[]corbel/api.Piece,corbel/api.Piece,corbel/api.Piece] -/
def c43 : AC := (.seq (.reg c43_r0) (.seq (.seq (.reg c43_r1) (.cond (.tmp 14) (.seq (.reg c43_r2) .ret) .skip)) (.seq (.seq (.reg c43_r3) (.block 0 (.loop c43_l0))) (.seq (.reg c43_r10) .ret))))
theorem c43_eq : Try.f43.body.map comp = some c43 := by kernel_rfl
theorem c43_n : Try.f43.ntmps = 32 := by kernel_rfl
theorem c43_rs : Try.f43.results.toList = [.tmp 6] := by kernel_rfl
def c44_r0 : List GOp := [⟨none, (some 2), (.box 49 (.tmp 0))⟩,
  ⟨none, (some 3), (.box 49 (.tmp 1))⟩,
  ⟨none, (some 4), (.assign (.const (.bool false)))⟩]
def c44_r1 : List GOp := [⟨none, (some 5), (.fieldAddr 49 (.tmp 2) 0)⟩,
  ⟨none, (some 6), (.load 3 (.tmp 5))⟩,
  ⟨none, (some 7), (.fieldAddr 49 (.tmp 3) 0)⟩,
  ⟨none, (some 8), (.load 3 (.tmp 7))⟩,
  ⟨none, (some 9), (.binOp .eql 3 (.tmp 6) (.tmp 8) 3)⟩,
  ⟨none, (some 10), (.move (.tmp 9))⟩,
  ⟨(some (10, true)), (some 11), (.fieldAddr 49 (.tmp 2) 1)⟩,
  ⟨(some (10, true)), (some 12), (.load 3 (.tmp 11))⟩,
  ⟨(some (10, true)), (some 13), (.fieldAddr 49 (.tmp 3) 1)⟩,
  ⟨(some (10, true)), (some 14), (.load 3 (.tmp 13))⟩,
  ⟨(some (10, true)), (some 15), (.binOp .eql 3 (.tmp 12) (.tmp 14) 3)⟩,
  ⟨none, (some 16), (.pick (.tmp 10) (.tmp 15) (.const (.bool false)))⟩,
  ⟨none, (some 17), (.move (.tmp 16))⟩,
  ⟨(some (17, true)), (some 18), (.fieldAddr 49 (.tmp 2) 2)⟩,
  ⟨(some (17, true)), (some 19), (.load 3 (.tmp 18))⟩,
  ⟨(some (17, true)), (some 20), (.fieldAddr 49 (.tmp 3) 2)⟩,
  ⟨(some (17, true)), (some 21), (.load 3 (.tmp 20))⟩,
  ⟨(some (17, true)), (some 22), (.binOp .eql 3 (.tmp 19) (.tmp 21) 3)⟩,
  ⟨none, (some 23), (.pick (.tmp 17) (.tmp 22) (.const (.bool false)))⟩,
  ⟨none, (some 24), (.move (.tmp 23))⟩,
  ⟨(some (24, true)), (some 25), (.fieldAddr 49 (.tmp 2) 3)⟩,
  ⟨(some (24, true)), (some 26), (.load 24 (.tmp 25))⟩,
  ⟨(some (24, true)), (some 27), (.fieldAddr 49 (.tmp 3) 3)⟩,
  ⟨(some (24, true)), (some 28), (.load 24 (.tmp 27))⟩,
  ⟨(some (24, true)), (some 29), (.call { callee := (.value (.func 34)), args := #[(.tmp 26), (.tmp 28)], argTypes := #[24, 24] })⟩,
  ⟨none, (some 30), (.pick (.tmp 24) (.tmp 29) (.const (.bool false)))⟩,
  ⟨none, (some 4), (.assign (.tmp 30))⟩]
/-- corbel/chunk.Same -/
def c44 : AC := (.seq (.reg c44_r0) (.seq (.reg c44_r1) .ret))
theorem c44_eq : Try.f44.body.map comp = some c44 := by kernel_rfl
theorem c44_n : Try.f44.ntmps = 31 := by kernel_rfl
theorem c44_rs : Try.f44.results.toList = [.tmp 4] := by kernel_rfl
def c45_r0 : List GOp := [⟨none, (some 6), (.assign (.const (.bool false)))⟩]
def c45_r1 : List GOp := [⟨none, (some 10), (.move (.tmp 0))⟩,
  ⟨none, (some 11), (.call { callee := (.builtin .len), args := #[(.tmp 10)], argTypes := #[45] })⟩,
  ⟨none, (some 12), (.move (.tmp 1))⟩,
  ⟨none, (some 13), (.call { callee := (.builtin .len), args := #[(.tmp 12)], argTypes := #[45] })⟩,
  ⟨none, (some 14), (.binOp .neq 3 (.tmp 11) (.tmp 13) 3)⟩]
def c45_r2 : List GOp := [⟨none, (some 6), (.assign (.const (.bool false)))⟩]
def c45_r3 : List GOp := [⟨none, (some 15), (.move (.tmp 0))⟩,
  ⟨none, (some 16), (.call { callee := (.builtin .len), args := #[(.tmp 15)], argTypes := #[45] })⟩,
  ⟨none, (some 17), (.move (.const (.int .i64 0)))⟩]
def c45_r4 : List GOp := [⟨none, (some 18), (.binOp .lss 3 (.tmp 17) (.tmp 16) 3)⟩]
def c45_r5 : List GOp := [⟨none, (some 19), (.move (.tmp 17))⟩,
  ⟨none, (some 20), (.indexAddr 45 (.tmp 15) (.tmp 17))⟩,
  ⟨none, (some 21), (.load 52 (.tmp 20))⟩,
  ⟨none, (some 8), (.alloc 52)⟩,
  ⟨none, (some 7), (.assign (.tmp 19))⟩,
  ⟨none, none, (.store 52 (.tmp 8) (.tmp 21))⟩]
def c45_r6 : List GOp := [⟨none, (some 22), (.move (.tmp 1))⟩,
  ⟨none, (some 23), (.move (.tmp 7))⟩,
  ⟨none, (some 24), (.indexAddr 45 (.tmp 22) (.tmp 23))⟩,
  ⟨none, (some 25), (.load 52 (.tmp 24))⟩,
  ⟨none, (some 9), (.alloc 52)⟩,
  ⟨none, none, (.store 52 (.tmp 9) (.tmp 25))⟩]
def c45_r7 : List GOp := [⟨none, (some 26), (.move (.tmp 2))⟩,
  ⟨none, (some 27), (.load 52 (.tmp 8))⟩,
  ⟨none, (some 28), (.load 52 (.tmp 9))⟩,
  ⟨none, (some 29), (.call { callee := (.value (.tmp 26)), args := #[(.tmp 27), (.tmp 28)], argTypes := #[52, 52] })⟩,
  ⟨none, (some 30), (.unOp .not 4 (.tmp 29))⟩]
def c45_r8 : List GOp := [⟨none, (some 6), (.assign (.const (.bool false)))⟩]
def c45_r9 : List GOp := [⟨none, (some 31), (.binOp .add 3 (.tmp 17) (.const (.int .i64 1)) 3)⟩,
  ⟨none, (some 17), (.move (.tmp 31))⟩]
def c45_l0 : AC := (.seq (.reg c45_r4) (.seq (.cond (.tmp 18) .skip (.exit 0)) (.seq (.block 1 (.seq (.reg c45_r5) (.seq (.reg c45_r6) (.seq (.reg c45_r7) (.cond (.tmp 30) (.seq (.reg c45_r8) .ret) .skip))))) (.reg c45_r9))))
def c45_r10 : List GOp := [⟨none, (some 6), (.assign (.const (.bool true)))⟩]
/-- slices.EqualFunc[[]corbel/api.Intent,[]corbel/api.Intent,corbel/api.Intent,corbel/api.Intent] -/
def c45 : AC := (.seq (.reg c45_r0) (.seq (.seq (.reg c45_r1) (.cond (.tmp 14) (.seq (.reg c45_r2) .ret) .skip)) (.seq (.seq (.reg c45_r3) (.block 0 (.loop c45_l0))) (.seq (.reg c45_r10) .ret))))
theorem c45_eq : Try.f45.body.map comp = some c45 := by kernel_rfl
theorem c45_n : Try.f45.ntmps = 32 := by kernel_rfl
theorem c45_rs : Try.f45.results.toList = [.tmp 6] := by kernel_rfl
def c46_r0 : List GOp := [⟨none, (some 2), (.box 52 (.tmp 0))⟩,
  ⟨none, (some 3), (.box 52 (.tmp 1))⟩,
  ⟨none, (some 4), (.assign (.const (.bool false)))⟩]
def c46_r1 : List GOp := [⟨none, (some 5), (.fieldAddr 52 (.tmp 2) 0)⟩,
  ⟨none, (some 6), (.load 3 (.tmp 5))⟩,
  ⟨none, (some 7), (.fieldAddr 52 (.tmp 3) 0)⟩,
  ⟨none, (some 8), (.load 3 (.tmp 7))⟩,
  ⟨none, (some 9), (.binOp .eql 3 (.tmp 6) (.tmp 8) 3)⟩,
  ⟨none, (some 10), (.move (.tmp 9))⟩,
  ⟨(some (10, true)), (some 11), (.fieldAddr 52 (.tmp 2) 1)⟩,
  ⟨(some (10, true)), (some 12), (.load 3 (.tmp 11))⟩,
  ⟨(some (10, true)), (some 13), (.fieldAddr 52 (.tmp 3) 1)⟩,
  ⟨(some (10, true)), (some 14), (.load 3 (.tmp 13))⟩,
  ⟨(some (10, true)), (some 15), (.binOp .eql 3 (.tmp 12) (.tmp 14) 3)⟩,
  ⟨none, (some 16), (.pick (.tmp 10) (.tmp 15) (.const (.bool false)))⟩,
  ⟨none, (some 17), (.move (.tmp 16))⟩,
  ⟨(some (17, true)), (some 18), (.fieldAddr 52 (.tmp 2) 2)⟩,
  ⟨(some (17, true)), (some 19), (.load 24 (.tmp 18))⟩,
  ⟨(some (17, true)), (some 20), (.fieldAddr 52 (.tmp 3) 2)⟩,
  ⟨(some (17, true)), (some 21), (.load 24 (.tmp 20))⟩,
  ⟨(some (17, true)), (some 22), (.call { callee := (.value (.func 34)), args := #[(.tmp 19), (.tmp 21)], argTypes := #[24, 24] })⟩,
  ⟨none, (some 23), (.pick (.tmp 17) (.tmp 22) (.const (.bool false)))⟩,
  ⟨none, (some 4), (.assign (.tmp 23))⟩]
/-- corbel/intent.Same -/
def c46 : AC := (.seq (.reg c46_r0) (.seq (.reg c46_r1) .ret))
theorem c46_eq : Try.f46.body.map comp = some c46 := by kernel_rfl
theorem c46_n : Try.f46.ntmps = 24 := by kernel_rfl
theorem c46_rs : Try.f46.results.toList = [.tmp 4] := by kernel_rfl
def c47_r0 : List GOp := [⟨none, (some 4), (.assign (.const (.slice none 0 0)))⟩]
def c47_r1 : List GOp := [⟨none, (some 5), (.move (.tmp 1))⟩,
  ⟨none, (some 6), (.binOp .lss 3 (.tmp 5) (.const (.int .i64 0)) 3)⟩]
def c47_r2 : List GOp := [⟨none, (some 7), (.makeInterface 9 (.const (.string ⟨#[99, 97, 110, 110, 111, 116, 32, 98, 101, 32, 110, 101, 103, 97, 116, 105, 118, 101]⟩)))⟩,
  ⟨none, none, (.panic (.tmp 7))⟩]
def c47_r3 : List GOp := [⟨none, (some 8), (.move (.tmp 1))⟩,
  ⟨none, (some 9), (.move (.tmp 0))⟩,
  ⟨none, (some 10), (.call { callee := (.builtin .cap), args := #[(.tmp 9)], argTypes := #[24] })⟩,
  ⟨none, (some 11), (.move (.tmp 0))⟩,
  ⟨none, (some 12), (.call { callee := (.builtin .len), args := #[(.tmp 11)], argTypes := #[24] })⟩,
  ⟨none, (some 13), (.binOp .sub 3 (.tmp 10) (.tmp 12) 3)⟩,
  ⟨none, (some 14), (.binOp .sub 3 (.tmp 8) (.tmp 13) 3)⟩,
  ⟨none, (some 1), (.assign (.tmp 14))⟩]
def c47_r4 : List GOp := [⟨none, (some 15), (.move (.tmp 1))⟩,
  ⟨none, (some 16), (.binOp .gtr 3 (.tmp 15) (.const (.int .i64 0)) 3)⟩]
def c47_r5 : List GOp := [⟨none, (some 17), (.move (.tmp 0))⟩,
  ⟨none, (some 18), (.move (.tmp 0))⟩,
  ⟨none, (some 19), (.call { callee := (.builtin .cap), args := #[(.tmp 18)], argTypes := #[24] })⟩,
  ⟨none, (some 20), (.slice 24 (.tmp 17) none (some (.tmp 19)) none)⟩,
  ⟨none, (some 21), (.move (.tmp 1))⟩,
  ⟨none, (some 22), (.call { callee := (.builtin .append), args := #[(.tmp 20), (.tmp 21)], argTypes := #[24, 3] })⟩,
  ⟨none, (some 23), (.move (.tmp 0))⟩,
  ⟨none, (some 24), (.call { callee := (.builtin .len), args := #[(.tmp 23)], argTypes := #[24] })⟩,
  ⟨none, (some 25), (.slice 24 (.tmp 22) none (some (.tmp 24)) none)⟩,
  ⟨none, (some 0), (.assign (.tmp 25))⟩]
def c47_r6 : List GOp := [⟨none, (some 26), (.move (.tmp 0))⟩,
  ⟨none, (some 4), (.assign (.tmp 26))⟩]
/-- slices.Grow[[]byte,byte] -/
def c47 : AC := (.seq (.reg c47_r0) (.seq (.seq (.reg c47_r1) (.cond (.tmp 6) (.reg c47_r2) .skip)) (.seq (.seq (.reg c47_r3) (.seq (.reg c47_r4) (.cond (.tmp 16) (.reg c47_r5) .skip))) (.seq (.reg c47_r6) .ret))))
theorem c47_eq : Try.f47.body.map comp = some c47 := by kernel_rfl
theorem c47_n : Try.f47.ntmps = 27 := by kernel_rfl
theorem c47_rs : Try.f47.results.toList = [.tmp 4] := by kernel_rfl
def c48_r0 : List GOp := [⟨none, (some 4), (.assign (.const (.bool false)))⟩]
def c48_r1 : List GOp := [⟨none, (some 5), (.move (.tmp 0))⟩,
  ⟨none, (some 6), (.move (.tmp 1))⟩,
  ⟨none, (some 7), (.call { callee := (.value (.func 56)), args := #[(.tmp 5), (.tmp 6)], argTypes := #[44, 78] })⟩,
  ⟨none, (some 8), (.binOp .geq 3 (.tmp 7) (.const (.int .i64 0)) 3)⟩,
  ⟨none, (some 4), (.assign (.tmp 8))⟩]
/-- slices.ContainsFunc[[]corbel/api.Piece,corbel/api.Piece] -/
def c48 : AC := (.seq (.reg c48_r0) (.seq (.reg c48_r1) .ret))
theorem c48_eq : Try.f48.body.map comp = some c48 := by kernel_rfl
theorem c48_n : Try.f48.ntmps = 9 := by kernel_rfl
theorem c48_rs : Try.f48.results.toList = [.tmp 4] := by kernel_rfl
def c49_r0 : List GOp := [⟨none, (some 1), (.box 49 (.tmp 0))⟩,
  ⟨none, (some 2), (.assign (.const (.bool false)))⟩]
def c49_r1 : List GOp := [⟨none, (some 3), (.load 49 (.tmp 1))⟩,
  ⟨none, (some 4), (.call { callee := (.value (.func 50)), args := #[(.tmp 3)], argTypes := #[49] })⟩,
  ⟨none, (some 5), (.unOp .not 4 (.tmp 4))⟩,
  ⟨none, (some 2), (.assign (.tmp 5))⟩]
/-- corbel/call.right$1 -/
def c49 : AC := (.seq (.reg c49_r0) (.seq (.reg c49_r1) .ret))
theorem c49_eq : Try.f49.body.map comp = some c49 := by kernel_rfl
theorem c49_n : Try.f49.ntmps = 6 := by kernel_rfl
theorem c49_rs : Try.f49.results.toList = [.tmp 2] := by kernel_rfl
def c50_r0 : List GOp := [⟨none, (some 1), (.box 49 (.tmp 0))⟩,
  ⟨none, (some 2), (.assign (.const (.bool false)))⟩]
def c50_r1 : List GOp := [⟨none, (some 3), (.fieldAddr 49 (.tmp 1) 0)⟩,
  ⟨none, (some 4), (.load 3 (.tmp 3))⟩,
  ⟨none, (some 5), (.binOp .geq 3 (.tmp 4) (.const (.int .i64 0)) 3)⟩,
  ⟨none, (some 6), (.move (.tmp 5))⟩,
  ⟨(some (6, true)), (some 7), (.fieldAddr 49 (.tmp 1) 0)⟩,
  ⟨(some (6, true)), (some 8), (.load 3 (.tmp 7))⟩,
  ⟨(some (6, true)), (some 9), (.binOp .lss 3 (.tmp 8) (.const (.int .i64 40)) 3)⟩,
  ⟨none, (some 10), (.pick (.tmp 6) (.tmp 9) (.const (.bool false)))⟩,
  ⟨none, (some 11), (.move (.tmp 10))⟩,
  ⟨(some (11, true)), (some 12), (.fieldAddr 49 (.tmp 1) 1)⟩,
  ⟨(some (11, true)), (some 13), (.load 3 (.tmp 12))⟩,
  ⟨(some (11, true)), (some 14), (.binOp .geq 3 (.tmp 13) (.const (.int .i64 1)) 3)⟩,
  ⟨none, (some 15), (.pick (.tmp 11) (.tmp 14) (.const (.bool false)))⟩,
  ⟨none, (some 16), (.move (.tmp 15))⟩,
  ⟨(some (16, true)), (some 17), (.fieldAddr 49 (.tmp 1) 1)⟩,
  ⟨(some (16, true)), (some 18), (.load 3 (.tmp 17))⟩,
  ⟨(some (16, true)), (some 19), (.binOp .leq 3 (.tmp 18) (.const (.int .i64 1099511627776)) 3)⟩,
  ⟨none, (some 20), (.pick (.tmp 16) (.tmp 19) (.const (.bool false)))⟩,
  ⟨none, (some 21), (.move (.tmp 20))⟩,
  ⟨(some (21, true)), (some 22), (.fieldAddr 49 (.tmp 1) 2)⟩,
  ⟨(some (21, true)), (some 23), (.load 3 (.tmp 22))⟩,
  ⟨(some (21, true)), (some 24), (.binOp .geq 3 (.tmp 23) (.const (.int .i64 0)) 3)⟩,
  ⟨none, (some 25), (.pick (.tmp 21) (.tmp 24) (.const (.bool false)))⟩,
  ⟨none, (some 26), (.move (.tmp 25))⟩,
  ⟨(some (26, true)), (some 27), (.fieldAddr 49 (.tmp 1) 2)⟩,
  ⟨(some (26, true)), (some 28), (.load 3 (.tmp 27))⟩,
  ⟨(some (26, true)), (some 29), (.binOp .lss 3 (.tmp 28) (.const (.int .i64 6)) 3)⟩,
  ⟨none, (some 30), (.pick (.tmp 26) (.tmp 29) (.const (.bool false)))⟩,
  ⟨none, (some 31), (.move (.tmp 30))⟩,
  ⟨(some (31, true)), (some 32), (.fieldAddr 49 (.tmp 1) 3)⟩,
  ⟨(some (31, true)), (some 33), (.load 24 (.tmp 32))⟩,
  ⟨(some (31, true)), (some 34), (.call { callee := (.builtin .len), args := #[(.tmp 33)], argTypes := #[24] })⟩,
  ⟨(some (31, true)), (some 35), (.binOp .eql 3 (.tmp 34) (.const (.int .i64 32)) 3)⟩,
  ⟨none, (some 36), (.pick (.tmp 31) (.tmp 35) (.const (.bool false)))⟩,
  ⟨none, (some 2), (.assign (.tmp 36))⟩]
/-- corbel/chunk.Right -/
def c50 : AC := (.seq (.reg c50_r0) (.seq (.reg c50_r1) .ret))
theorem c50_eq : Try.f50.body.map comp = some c50 := by kernel_rfl
theorem c50_n : Try.f50.ntmps = 37 := by kernel_rfl
theorem c50_rs : Try.f50.results.toList = [.tmp 2] := by kernel_rfl
def c51_r0 : List GOp := [⟨none, (some 4), (.assign (.const (.bool false)))⟩]
def c51_r1 : List GOp := [⟨none, (some 5), (.move (.tmp 0))⟩,
  ⟨none, (some 6), (.move (.tmp 1))⟩,
  ⟨none, (some 7), (.call { callee := (.value (.func 57)), args := #[(.tmp 5), (.tmp 6)], argTypes := #[45, 79] })⟩,
  ⟨none, (some 8), (.binOp .geq 3 (.tmp 7) (.const (.int .i64 0)) 3)⟩,
  ⟨none, (some 4), (.assign (.tmp 8))⟩]
/-- slices.ContainsFunc[[]corbel/api.Intent,corbel/api.Intent] -/
def c51 : AC := (.seq (.reg c51_r0) (.seq (.reg c51_r1) .ret))
theorem c51_eq : Try.f51.body.map comp = some c51 := by kernel_rfl
theorem c51_n : Try.f51.ntmps = 9 := by kernel_rfl
theorem c51_rs : Try.f51.results.toList = [.tmp 4] := by kernel_rfl
def c52_r0 : List GOp := [⟨none, (some 1), (.box 52 (.tmp 0))⟩,
  ⟨none, (some 2), (.assign (.const (.bool false)))⟩]
def c52_r1 : List GOp := [⟨none, (some 3), (.load 52 (.tmp 1))⟩,
  ⟨none, (some 4), (.call { callee := (.value (.func 53)), args := #[(.tmp 3)], argTypes := #[52] })⟩,
  ⟨none, (some 5), (.unOp .not 4 (.tmp 4))⟩,
  ⟨none, (some 2), (.assign (.tmp 5))⟩]
/-- corbel/call.right$2 -/
def c52 : AC := (.seq (.reg c52_r0) (.seq (.reg c52_r1) .ret))
theorem c52_eq : Try.f52.body.map comp = some c52 := by kernel_rfl
theorem c52_n : Try.f52.ntmps = 6 := by kernel_rfl
theorem c52_rs : Try.f52.results.toList = [.tmp 2] := by kernel_rfl
def c53_r0 : List GOp := [⟨none, (some 1), (.box 52 (.tmp 0))⟩,
  ⟨none, (some 2), (.assign (.const (.bool false)))⟩]
def c53_r1 : List GOp := [⟨none, (some 3), (.fieldAddr 52 (.tmp 1) 0)⟩,
  ⟨none, (some 4), (.load 3 (.tmp 3))⟩,
  ⟨none, (some 5), (.binOp .geq 3 (.tmp 4) (.const (.int .i64 0)) 3)⟩,
  ⟨none, (some 6), (.move (.tmp 5))⟩,
  ⟨(some (6, true)), (some 7), (.fieldAddr 52 (.tmp 1) 0)⟩,
  ⟨(some (6, true)), (some 8), (.load 3 (.tmp 7))⟩,
  ⟨(some (6, true)), (some 9), (.binOp .lss 3 (.tmp 8) (.const (.int .i64 40)) 3)⟩,
  ⟨none, (some 10), (.pick (.tmp 6) (.tmp 9) (.const (.bool false)))⟩,
  ⟨none, (some 11), (.move (.tmp 10))⟩,
  ⟨(some (11, true)), (some 12), (.fieldAddr 52 (.tmp 1) 1)⟩,
  ⟨(some (11, true)), (some 13), (.load 3 (.tmp 12))⟩,
  ⟨(some (11, true)), (some 14), (.binOp .geq 3 (.tmp 13) (.const (.int .i64 1)) 3)⟩,
  ⟨none, (some 15), (.pick (.tmp 11) (.tmp 14) (.const (.bool false)))⟩,
  ⟨none, (some 16), (.move (.tmp 15))⟩,
  ⟨(some (16, true)), (some 17), (.fieldAddr 52 (.tmp 1) 1)⟩,
  ⟨(some (16, true)), (some 18), (.load 3 (.tmp 17))⟩,
  ⟨(some (16, true)), (some 19), (.binOp .leq 3 (.tmp 18) (.const (.int .i64 1099511627776)) 3)⟩,
  ⟨none, (some 20), (.pick (.tmp 16) (.tmp 19) (.const (.bool false)))⟩,
  ⟨none, (some 21), (.move (.tmp 20))⟩,
  ⟨(some (21, true)), (some 22), (.fieldAddr 52 (.tmp 1) 2)⟩,
  ⟨(some (21, true)), (some 23), (.load 24 (.tmp 22))⟩,
  ⟨(some (21, true)), (some 24), (.call { callee := (.builtin .len), args := #[(.tmp 23)], argTypes := #[24] })⟩,
  ⟨(some (21, true)), (some 25), (.binOp .eql 3 (.tmp 24) (.const (.int .i64 128)) 3)⟩,
  ⟨none, (some 26), (.pick (.tmp 21) (.tmp 25) (.const (.bool false)))⟩,
  ⟨none, (some 2), (.assign (.tmp 26))⟩]
/-- corbel/intent.Right -/
def c53 : AC := (.seq (.reg c53_r0) (.seq (.reg c53_r1) .ret))
theorem c53_eq : Try.f53.body.map comp = some c53 := by kernel_rfl
theorem c53_n : Try.f53.ntmps = 27 := by kernel_rfl
theorem c53_rs : Try.f53.results.toList = [.tmp 2] := by kernel_rfl
def c54_r0 : List GOp := [⟨none, (some 2), (.box 49 (.tmp 0))⟩,
  ⟨none, (some 3), (.box 49 (.tmp 1))⟩,
  ⟨none, (some 4), (.assign (.const (.bool false)))⟩]
def c54_r1 : List GOp := [⟨none, (some 5), (.fieldAddr 49 (.tmp 2) 0)⟩,
  ⟨none, (some 6), (.load 3 (.tmp 5))⟩,
  ⟨none, (some 7), (.fieldAddr 49 (.tmp 3) 0)⟩,
  ⟨none, (some 8), (.load 3 (.tmp 7))⟩,
  ⟨none, (some 9), (.binOp .eql 3 (.tmp 6) (.tmp 8) 3)⟩,
  ⟨none, (some 10), (.move (.tmp 9))⟩,
  ⟨(some (10, true)), (some 11), (.fieldAddr 49 (.tmp 2) 1)⟩,
  ⟨(some (10, true)), (some 12), (.load 3 (.tmp 11))⟩,
  ⟨(some (10, true)), (some 13), (.fieldAddr 49 (.tmp 3) 1)⟩,
  ⟨(some (10, true)), (some 14), (.load 3 (.tmp 13))⟩,
  ⟨(some (10, true)), (some 15), (.binOp .eql 3 (.tmp 12) (.tmp 14) 3)⟩,
  ⟨none, (some 16), (.pick (.tmp 10) (.tmp 15) (.const (.bool false)))⟩,
  ⟨none, (some 17), (.move (.tmp 16))⟩,
  ⟨(some (17, true)), (some 18), (.fieldAddr 49 (.tmp 2) 2)⟩,
  ⟨(some (17, true)), (some 19), (.load 3 (.tmp 18))⟩,
  ⟨(some (17, true)), (some 20), (.fieldAddr 49 (.tmp 3) 2)⟩,
  ⟨(some (17, true)), (some 21), (.load 3 (.tmp 20))⟩,
  ⟨(some (17, true)), (some 22), (.binOp .eql 3 (.tmp 19) (.tmp 21) 3)⟩,
  ⟨none, (some 23), (.pick (.tmp 17) (.tmp 22) (.const (.bool false)))⟩,
  ⟨none, (some 24), (.move (.tmp 23))⟩,
  ⟨(some (24, true)), (some 25), (.fieldAddr 49 (.tmp 2) 3)⟩,
  ⟨(some (24, true)), (some 26), (.load 24 (.tmp 25))⟩,
  ⟨(some (24, true)), (some 27), (.convert 24 9 (.tmp 26))⟩,
  ⟨(some (24, true)), (some 28), (.fieldAddr 49 (.tmp 3) 3)⟩,
  ⟨(some (24, true)), (some 29), (.load 24 (.tmp 28))⟩,
  ⟨(some (24, true)), (some 30), (.convert 24 9 (.tmp 29))⟩,
  ⟨(some (24, true)), (some 31), (.binOp .eql 9 (.tmp 27) (.tmp 30) 9)⟩,
  ⟨none, (some 32), (.pick (.tmp 24) (.tmp 31) (.const (.bool false)))⟩,
  ⟨none, (some 4), (.assign (.tmp 32))⟩]
/-- corbel/corbelref7.SamePiece -/
def c54 : AC := (.seq (.reg c54_r0) (.seq (.reg c54_r1) .ret))
theorem c54_eq : Try.f54.body.map comp = some c54 := by kernel_rfl
theorem c54_n : Try.f54.ntmps = 33 := by kernel_rfl
theorem c54_rs : Try.f54.results.toList = [.tmp 4] := by kernel_rfl
def c55_r0 : List GOp := [⟨none, (some 2), (.box 52 (.tmp 0))⟩,
  ⟨none, (some 3), (.box 52 (.tmp 1))⟩,
  ⟨none, (some 4), (.assign (.const (.bool false)))⟩]
def c55_r1 : List GOp := [⟨none, (some 5), (.fieldAddr 52 (.tmp 2) 0)⟩,
  ⟨none, (some 6), (.load 3 (.tmp 5))⟩,
  ⟨none, (some 7), (.fieldAddr 52 (.tmp 3) 0)⟩,
  ⟨none, (some 8), (.load 3 (.tmp 7))⟩,
  ⟨none, (some 9), (.binOp .eql 3 (.tmp 6) (.tmp 8) 3)⟩,
  ⟨none, (some 10), (.move (.tmp 9))⟩,
  ⟨(some (10, true)), (some 11), (.fieldAddr 52 (.tmp 2) 1)⟩,
  ⟨(some (10, true)), (some 12), (.load 3 (.tmp 11))⟩,
  ⟨(some (10, true)), (some 13), (.fieldAddr 52 (.tmp 3) 1)⟩,
  ⟨(some (10, true)), (some 14), (.load 3 (.tmp 13))⟩,
  ⟨(some (10, true)), (some 15), (.binOp .eql 3 (.tmp 12) (.tmp 14) 3)⟩,
  ⟨none, (some 16), (.pick (.tmp 10) (.tmp 15) (.const (.bool false)))⟩,
  ⟨none, (some 17), (.move (.tmp 16))⟩,
  ⟨(some (17, true)), (some 18), (.fieldAddr 52 (.tmp 2) 2)⟩,
  ⟨(some (17, true)), (some 19), (.load 24 (.tmp 18))⟩,
  ⟨(some (17, true)), (some 20), (.convert 24 9 (.tmp 19))⟩,
  ⟨(some (17, true)), (some 21), (.fieldAddr 52 (.tmp 3) 2)⟩,
  ⟨(some (17, true)), (some 22), (.load 24 (.tmp 21))⟩,
  ⟨(some (17, true)), (some 23), (.convert 24 9 (.tmp 22))⟩,
  ⟨(some (17, true)), (some 24), (.binOp .eql 9 (.tmp 20) (.tmp 23) 9)⟩,
  ⟨none, (some 25), (.pick (.tmp 17) (.tmp 24) (.const (.bool false)))⟩,
  ⟨none, (some 4), (.assign (.tmp 25))⟩]
/-- corbel/corbelref7.SameIntent -/
def c55 : AC := (.seq (.reg c55_r0) (.seq (.reg c55_r1) .ret))
theorem c55_eq : Try.f55.body.map comp = some c55 := by kernel_rfl
theorem c55_n : Try.f55.ntmps = 26 := by kernel_rfl
theorem c55_rs : Try.f55.results.toList = [.tmp 4] := by kernel_rfl
def c56_r0 : List GOp := [⟨none, (some 4), (.assign (.const (.int .i64 0)))⟩]
def c56_r1 : List GOp := [⟨none, (some 6), (.move (.tmp 0))⟩,
  ⟨none, (some 7), (.call { callee := (.builtin .len), args := #[(.tmp 6)], argTypes := #[44] })⟩,
  ⟨none, (some 8), (.move (.const (.int .i64 0)))⟩]
def c56_r2 : List GOp := [⟨none, (some 9), (.binOp .lss 3 (.tmp 8) (.tmp 7) 3)⟩]
def c56_r3 : List GOp := [⟨none, (some 10), (.move (.tmp 8))⟩,
  ⟨none, (some 5), (.assign (.tmp 10))⟩]
def c56_r4 : List GOp := [⟨none, (some 11), (.move (.tmp 1))⟩,
  ⟨none, (some 12), (.move (.tmp 0))⟩,
  ⟨none, (some 13), (.move (.tmp 5))⟩,
  ⟨none, (some 14), (.indexAddr 44 (.tmp 12) (.tmp 13))⟩,
  ⟨none, (some 15), (.load 49 (.tmp 14))⟩,
  ⟨none, (some 16), (.call { callee := (.value (.tmp 11)), args := #[(.tmp 15)], argTypes := #[49] })⟩]
def c56_r5 : List GOp := [⟨none, (some 17), (.move (.tmp 5))⟩,
  ⟨none, (some 4), (.assign (.tmp 17))⟩]
def c56_r6 : List GOp := [⟨none, (some 18), (.binOp .add 3 (.tmp 8) (.const (.int .i64 1)) 3)⟩,
  ⟨none, (some 8), (.move (.tmp 18))⟩]
def c56_l0 : AC := (.seq (.reg c56_r2) (.seq (.cond (.tmp 9) .skip (.exit 0)) (.seq (.block 1 (.seq (.reg c56_r3) (.seq (.reg c56_r4) (.cond (.tmp 16) (.seq (.reg c56_r5) .ret) .skip)))) (.reg c56_r6))))
def c56_r7 : List GOp := [⟨none, (some 4), (.assign (.const (.int .i64 (-1))))⟩]
/-- slices.IndexFunc[[]corbel/api.Piece,corbel/api.Piece] -/
def c56 : AC := (.seq (.reg c56_r0) (.seq (.seq (.reg c56_r1) (.block 0 (.loop c56_l0))) (.seq (.reg c56_r7) .ret)))
theorem c56_eq : Try.f56.body.map comp = some c56 := by kernel_rfl
theorem c56_n : Try.f56.ntmps = 19 := by kernel_rfl
theorem c56_rs : Try.f56.results.toList = [.tmp 4] := by kernel_rfl
def c57_r0 : List GOp := [⟨none, (some 4), (.assign (.const (.int .i64 0)))⟩]
def c57_r1 : List GOp := [⟨none, (some 6), (.move (.tmp 0))⟩,
  ⟨none, (some 7), (.call { callee := (.builtin .len), args := #[(.tmp 6)], argTypes := #[45] })⟩,
  ⟨none, (some 8), (.move (.const (.int .i64 0)))⟩]
def c57_r2 : List GOp := [⟨none, (some 9), (.binOp .lss 3 (.tmp 8) (.tmp 7) 3)⟩]
def c57_r3 : List GOp := [⟨none, (some 10), (.move (.tmp 8))⟩,
  ⟨none, (some 5), (.assign (.tmp 10))⟩]
def c57_r4 : List GOp := [⟨none, (some 11), (.move (.tmp 1))⟩,
  ⟨none, (some 12), (.move (.tmp 0))⟩,
  ⟨none, (some 13), (.move (.tmp 5))⟩,
  ⟨none, (some 14), (.indexAddr 45 (.tmp 12) (.tmp 13))⟩,
  ⟨none, (some 15), (.load 52 (.tmp 14))⟩,
  ⟨none, (some 16), (.call { callee := (.value (.tmp 11)), args := #[(.tmp 15)], argTypes := #[52] })⟩]
def c57_r5 : List GOp := [⟨none, (some 17), (.move (.tmp 5))⟩,
  ⟨none, (some 4), (.assign (.tmp 17))⟩]
def c57_r6 : List GOp := [⟨none, (some 18), (.binOp .add 3 (.tmp 8) (.const (.int .i64 1)) 3)⟩,
  ⟨none, (some 8), (.move (.tmp 18))⟩]
def c57_l0 : AC := (.seq (.reg c57_r2) (.seq (.cond (.tmp 9) .skip (.exit 0)) (.seq (.block 1 (.seq (.reg c57_r3) (.seq (.reg c57_r4) (.cond (.tmp 16) (.seq (.reg c57_r5) .ret) .skip)))) (.reg c57_r6))))
def c57_r7 : List GOp := [⟨none, (some 4), (.assign (.const (.int .i64 (-1))))⟩]
/-- slices.IndexFunc[[]corbel/api.Intent,corbel/api.Intent] -/
def c57 : AC := (.seq (.reg c57_r0) (.seq (.seq (.reg c57_r1) (.block 0 (.loop c57_l0))) (.seq (.reg c57_r7) .ret)))
theorem c57_eq : Try.f57.body.map comp = some c57 := by kernel_rfl
theorem c57_n : Try.f57.ntmps = 19 := by kernel_rfl
theorem c57_rs : Try.f57.results.toList = [.tmp 4] := by kernel_rfl
end Go.Proofs.Ytnanpamfdjnomaa
