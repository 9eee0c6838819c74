/- The code of the seat's functions as it is reckoned with, and closed facts on types and functions. Written by alg.py out of the translation. -/
import Derived.Test.YtapdhhnkgjampaaProg
import Derived.Test.YtapdhhnkgjampaaALDreg
import Derived.KernelRfl
namespace Go.Proofs.Ytapdhhnkgjampaa
open Go Go.RowKit Go.Proofs.Ytapdhhnkgjampaa.AL
set_option maxRecDepth 100000

theorem call_10 : callable Try.prog 10 = true := by kernel_rfl
theorem call_11 : callable Try.prog 11 = true := by kernel_rfl
theorem call_12 : callable Try.prog 12 = true := by kernel_rfl
theorem call_13 : callable Try.prog 13 = true := by kernel_rfl
theorem call_14 : callable Try.prog 14 = true := by kernel_rfl
theorem call_15 : callable Try.prog 15 = true := by kernel_rfl
theorem call_16 : callable Try.prog 16 = true := by kernel_rfl
theorem call_17 : callable Try.prog 17 = true := by kernel_rfl
theorem call_5 : callable Try.prog 5 = true := by kernel_rfl
theorem call_6 : callable Try.prog 6 = true := by kernel_rfl
theorem call_7 : callable Try.prog 7 = true := by kernel_rfl
theorem call_8 : callable Try.prog 8 = true := by kernel_rfl
theorem call_9 : callable Try.prog 9 = true := by kernel_rfl
theorem tBool_25 : tBool Try.prog 25 = false := by kernel_rfl
theorem tBool_27 : tBool Try.prog 27 = false := by kernel_rfl
theorem tBool_3 : tBool Try.prog 3 = false := by kernel_rfl
theorem tBool_36 : tBool Try.prog 36 = false := by kernel_rfl
theorem tBool_5 : tBool Try.prog 5 = false := by kernel_rfl
theorem tBool_9 : tBool Try.prog 9 = false := by kernel_rfl
theorem tFld_29_0 : tFld Try.prog 29 0 = some 0 := by kernel_rfl
theorem tFld_29_1 : tFld Try.prog 29 1 = some 1 := by kernel_rfl
theorem tFld_29_2 : tFld Try.prog 29 2 = some 2 := by kernel_rfl
theorem tFld_29_3 : tFld Try.prog 29 3 = some 3 := by kernel_rfl
theorem tFld_29_4 : tFld Try.prog 29 4 = some 4 := by kernel_rfl
theorem tFld_29_5 : tFld Try.prog 29 5 = some 5 := by kernel_rfl
theorem tFld_32_0 : tFld Try.prog 32 0 = some 0 := by kernel_rfl
theorem tFld_32_1 : tFld Try.prog 32 1 = some 1 := by kernel_rfl
theorem tFld_32_2 : tFld Try.prog 32 2 = some 2 := by kernel_rfl
theorem tFld_32_3 : tFld Try.prog 32 3 = some 3 := by kernel_rfl
theorem tFld_32_4 : tFld Try.prog 32 4 = some 4 := by kernel_rfl
theorem tFld_32_5 : tFld Try.prog 32 5 = some 5 := by kernel_rfl
theorem tInt_25 : tInt Try.prog 25 = none := by kernel_rfl
theorem tInt_27 : tInt Try.prog 27 = some .u64 := by kernel_rfl
theorem tInt_3 : tInt Try.prog 3 = some .i64 := by kernel_rfl
theorem tInt_5 : tInt Try.prog 5 = some .u8 := by kernel_rfl
theorem tInt_9 : tInt Try.prog 9 = none := by kernel_rfl
theorem tPlaces_29 : tPlaces Try.prog 29 = some ([(0, 1), (1, 1), (2, 1), (3, 1), (4, 1), (5, 1)], [.int .i64 0, .int .i64 0, .int .u64 0, .int .u64 0, .int .i64 0, .slice none 0 0]) := by kernel_rfl
theorem tPtr_25 : tPtr Try.prog 25 = false := by kernel_rfl
theorem tPtr_27 : tPtr Try.prog 27 = false := by kernel_rfl
theorem tPtr_3 : tPtr Try.prog 3 = false := by kernel_rfl
theorem tPtr_36 : tPtr Try.prog 36 = false := by kernel_rfl
theorem tPtr_5 : tPtr Try.prog 5 = false := by kernel_rfl
theorem tPtr_9 : tPtr Try.prog 9 = false := by kernel_rfl
theorem tSA_25 : tSA Try.prog 25 = some (1, false) := by kernel_rfl
theorem tSA_27 : tSA Try.prog 27 = some (1, false) := by kernel_rfl
theorem tSA_29 : tSA Try.prog 29 = some (6, true) := by kernel_rfl
theorem tSA_3 : tSA Try.prog 3 = some (1, false) := by kernel_rfl
theorem tSA_32 : tSA Try.prog 32 = some (7, true) := by kernel_rfl
theorem tSA_5 : tSA Try.prog 5 = some (1, false) := by kernel_rfl
theorem tSl_22 : tSl Try.prog 22 = some (32, 7, 72) := by kernel_rfl
theorem tSl_24 : tSl Try.prog 24 = some (29, 6, 64) := by kernel_rfl
theorem tSl_25 : tSl Try.prog 25 = some (5, 1, 1) := by kernel_rfl
theorem tSl_26 : tSl Try.prog 26 = some (3, 1, 8) := by kernel_rfl
theorem tSl_27 : tSl Try.prog 27 = none := by kernel_rfl
theorem tSl_3 : tSl Try.prog 3 = none := by kernel_rfl
theorem tSl_36 : tSl Try.prog 36 = none := by kernel_rfl
theorem tSl_48 : tSl Try.prog 48 = some (25, 1, 24) := by kernel_rfl
theorem tSl_5 : tSl Try.prog 5 = none := by kernel_rfl
theorem tSl_9 : tSl Try.prog 9 = none := by kernel_rfl
theorem tStr_22 : tStr Try.prog 22 = false := by kernel_rfl
theorem tStr_24 : tStr Try.prog 24 = false := by kernel_rfl
theorem tStr_25 : tStr Try.prog 25 = false := by kernel_rfl
theorem tStr_26 : tStr Try.prog 26 = false := by kernel_rfl
theorem tStr_27 : tStr Try.prog 27 = false := by kernel_rfl
theorem tStr_3 : tStr Try.prog 3 = false := by kernel_rfl
theorem tStr_48 : tStr Try.prog 48 = false := by kernel_rfl
theorem tStr_5 : tStr Try.prog 5 = false := by kernel_rfl
theorem tStr_9 : tStr Try.prog 9 = true := by kernel_rfl
theorem tZero_29 : tZero Try.prog 29 = some [.int .i64 0, .int .i64 0, .int .u64 0, .int .u64 0, .int .i64 0, .slice none 0 0] := by kernel_rfl
theorem tZero_5 : tZero Try.prog 5 = some [.int .u8 0] := by kernel_rfl
theorem und_22 : Try.prog.underlying 22 = some (.slice 32) := by kernel_rfl
theorem und_24 : Try.prog.underlying 24 = some (.slice 29) := by kernel_rfl
theorem und_25 : Try.prog.underlying 25 = some (.slice 5) := by kernel_rfl
theorem und_26 : Try.prog.underlying 26 = some (.slice 3) := by kernel_rfl
theorem und_27 : Try.prog.underlying 27 = some (.int .u64) := by kernel_rfl
theorem und_3 : Try.prog.underlying 3 = some (.int .i64) := by kernel_rfl
theorem und_48 : Try.prog.underlying 48 = some (.slice 25) := by kernel_rfl
theorem und_5 : Try.prog.underlying 5 = some (.int .u8) := by kernel_rfl

def c3_r0 : List GOp := [⟨none, (some 4), (.assign (.const (.bool false)))⟩]
def c3_r1 : List GOp := [⟨none, (some 18), (.call { callee := (.value (.func 5)), args := #[], argTypes := #[] })⟩,
  ⟨none, (some 19), (.unOp .not 4 (.tmp 18))⟩]
def c3_r2 : List GOp := [⟨none, (some 4), (.assign (.const (.bool false)))⟩]
def c3_r3 : List GOp := [⟨none, (some 5), (.assign (.const (.slice none 0 0)))⟩]
def c3_r4 : List GOp := [⟨none, (some 6), (.assign (.const (.slice none 0 0)))⟩]
def c3_r5 : List GOp := [⟨none, (some 7), (.assign (.const (.slice none 0 0)))⟩]
def c3_r6 : List GOp := [⟨none, (some 8), (.assign (.const (.int .i64 0)))⟩]
def c3_r7 : List GOp := [⟨none, (some 20), (.move (.tmp 8))⟩,
  ⟨none, (some 21), (.move (.tmp 0))⟩,
  ⟨none, (some 22), (.call { callee := (.builtin .len), args := #[(.tmp 21)], argTypes := #[22] })⟩,
  ⟨none, (some 23), (.binOp .lss 3 (.tmp 20) (.tmp 22) 3)⟩,
  ⟨none, (some 24), (.move (.tmp 23))⟩,
  ⟨(some (24, true)), (some 25), (.move (.tmp 8))⟩,
  ⟨(some (24, true)), (some 26), (.binOp .lss 3 (.tmp 25) (.const (.int .i64 8)) 3)⟩,
  ⟨none, (some 27), (.pick (.tmp 24) (.tmp 26) (.const (.bool false)))⟩]
def c3_r9 : List GOp := [⟨none, (some 30), (.move (.tmp 0))⟩,
  ⟨none, (some 31), (.move (.tmp 8))⟩,
  ⟨none, (some 32), (.indexAddr 22 (.tmp 30) (.tmp 31))⟩,
  ⟨none, (some 33), (.load 32 (.tmp 32))⟩,
  ⟨none, (some 34), (.call { callee := (.value (.func 6)), args := #[(.tmp 33)], argTypes := #[32] })⟩,
  ⟨none, (some 9), (.alloc 29)⟩,
  ⟨none, none, (.store 29 (.tmp 9) (.tmp 34))⟩]
def c3_r10 : List GOp := [⟨none, (some 35), (.fieldAddr 29 (.tmp 9) 1)⟩,
  ⟨none, (some 36), (.load 3 (.tmp 35))⟩,
  ⟨none, (some 37), (.call { callee := (.value (.func 7)), args := #[(.tmp 36), (.const (.int .i64 65536))], argTypes := #[3, 3] })⟩,
  ⟨none, (some 38), (.fieldAddr 29 (.tmp 9) 1)⟩,
  ⟨none, none, (.store 3 (.tmp 38) (.tmp 37))⟩]
def c3_r11 : List GOp := [⟨none, (some 39), (.fieldAddr 29 (.tmp 9) 0)⟩,
  ⟨none, (some 40), (.load 3 (.tmp 39))⟩,
  ⟨none, (some 41), (.call { callee := (.value (.func 7)), args := #[(.tmp 40), (.const (.int .i64 65536))], argTypes := #[3, 3] })⟩,
  ⟨none, (some 42), (.fieldAddr 29 (.tmp 9) 0)⟩,
  ⟨none, none, (.store 3 (.tmp 42) (.tmp 41))⟩]
def c3_r12 : List GOp := [⟨none, (some 43), (.fieldAddr 29 (.tmp 9) 4)⟩,
  ⟨none, (some 44), (.load 3 (.tmp 43))⟩,
  ⟨none, (some 45), (.call { callee := (.value (.func 7)), args := #[(.tmp 44), (.const (.int .i64 4294967296))], argTypes := #[3, 3] })⟩,
  ⟨none, (some 46), (.fieldAddr 29 (.tmp 9) 4)⟩,
  ⟨none, none, (.store 3 (.tmp 46) (.tmp 45))⟩]
def c3_r13 : List GOp := [⟨none, (some 47), (.fieldAddr 29 (.tmp 9) 5)⟩,
  ⟨none, none, (.store 25 (.tmp 47) (.const (.slice none 0 0)))⟩]
def c3_r14 : List GOp := [⟨none, (some 48), (.fieldAddr 29 (.tmp 9) 1)⟩,
  ⟨none, (some 49), (.load 3 (.tmp 48))⟩,
  ⟨none, (some 50), (.binOp .eql 3 (.tmp 49) (.const (.int .i64 1)) 3)⟩]
def c3_r15 : List GOp := [⟨none, (some 51), (.fieldAddr 29 (.tmp 9) 4)⟩,
  ⟨none, (some 52), (.load 3 (.tmp 51))⟩,
  ⟨none, (some 53), (.call { callee := (.value (.func 7)), args := #[(.tmp 52), (.const (.int .i64 300))], argTypes := #[3, 3] })⟩,
  ⟨none, (some 54), (.fieldAddr 29 (.tmp 9) 4)⟩,
  ⟨none, none, (.store 3 (.tmp 54) (.tmp 53))⟩]
def c3_r16 : List GOp := [⟨none, (some 55), (.move (.tmp 8))⟩,
  ⟨none, (some 56), (.fieldAddr 29 (.tmp 9) 4)⟩,
  ⟨none, (some 57), (.load 3 (.tmp 56))⟩,
  ⟨none, (some 58), (.call { callee := (.value (.func 8)), args := #[(.tmp 55), (.tmp 57)], argTypes := #[3, 3] })⟩,
  ⟨none, (some 59), (.fieldAddr 29 (.tmp 9) 5)⟩,
  ⟨none, none, (.store 25 (.tmp 59) (.tmp 58))⟩]
def c3_r17 : List GOp := [⟨none, (some 60), (.move (.tmp 5))⟩,
  ⟨none, (some 61), (.load 29 (.tmp 9))⟩,
  ⟨none, (some 62), (.buildSlice 24 1 #[(0, (.tmp 61))])⟩,
  ⟨none, (some 63), (.call { callee := (.builtin .append), args := #[(.tmp 60), (.tmp 62)], argTypes := #[24, 24] })⟩,
  ⟨none, (some 5), (.assign (.tmp 63))⟩]
def c3_r18 : List GOp := [⟨none, (some 64), (.move (.tmp 6))⟩,
  ⟨none, (some 65), (.load 29 (.tmp 9))⟩,
  ⟨none, (some 66), (.call { callee := (.value (.func 9)), args := #[(.tmp 65)], argTypes := #[29] })⟩,
  ⟨none, (some 67), (.call { callee := (.builtin .append), args := #[(.tmp 64), (.tmp 66)], argTypes := #[25, 25] })⟩,
  ⟨none, (some 6), (.assign (.tmp 67))⟩]
def c3_r19 : List GOp := [⟨none, (some 68), (.move (.tmp 7))⟩,
  ⟨none, (some 69), (.move (.tmp 6))⟩,
  ⟨none, (some 70), (.call { callee := (.builtin .len), args := #[(.tmp 69)], argTypes := #[25] })⟩,
  ⟨none, (some 71), (.buildSlice 26 1 #[(0, (.tmp 70))])⟩,
  ⟨none, (some 72), (.call { callee := (.builtin .append), args := #[(.tmp 68), (.tmp 71)], argTypes := #[26, 26] })⟩,
  ⟨none, (some 7), (.assign (.tmp 72))⟩]
def c3_r8 : List GOp := [⟨none, (some 28), (.move (.tmp 8))⟩,
  ⟨none, (some 29), (.binOp .add 3 (.tmp 28) (.const (.int .i64 1)) 3)⟩,
  ⟨none, (some 8), (.assign (.tmp 29))⟩]
def c3_l0 : AC := (.seq (.seq (.reg c3_r7) (.cond (.tmp 27) .skip (.exit 0))) (.seq (.block 1 (.seq (.reg c3_r9) (.seq (.reg c3_r10) (.seq (.reg c3_r11) (.seq (.reg c3_r12) (.seq (.reg c3_r13) (.seq (.seq (.reg c3_r14) (.cond (.tmp 50) (.seq (.reg c3_r15) (.reg c3_r16)) .skip)) (.seq (.reg c3_r17) (.seq (.reg c3_r18) (.reg c3_r19)))))))))) (.reg c3_r8)))
def c3_r20 : List GOp := [⟨none, (some 73), (.move (.tmp 1))⟩,
  ⟨none, (some 74), (.move (.tmp 6))⟩,
  ⟨none, (some 75), (.call { callee := (.builtin .len), args := #[(.tmp 74)], argTypes := #[25] })⟩,
  ⟨none, (some 76), (.binOp .add 3 (.tmp 75) (.const (.int .i64 1)) 3)⟩,
  ⟨none, (some 77), (.call { callee := (.value (.func 7)), args := #[(.tmp 73), (.tmp 76)], argTypes := #[3, 3] })⟩,
  ⟨none, (some 1), (.assign (.tmp 77))⟩]
def c3_r21 : List GOp := [⟨none, (some 78), (.move (.tmp 6))⟩,
  ⟨none, (some 79), (.move (.tmp 1))⟩,
  ⟨none, (some 80), (.slice 25 (.tmp 78) none (some (.tmp 79)) none)⟩,
  ⟨none, (some 10), (.assign (.tmp 80))⟩]
def c3_r22 : List GOp := [⟨none, (some 11), (.assign (.const (.int .i64 0)))⟩]
def c3_r23 : List GOp := [⟨none, (some 82), (.move (.tmp 10))⟩,
  ⟨none, (some 83), (.call { callee := (.value (.func 10)), args := #[(.tmp 82)], argTypes := #[25] })⟩,
  ⟨none, (some 81), (.move (.tmp 83))⟩,
  ⟨none, (some 84), (.extract (.tmp 81) 0)⟩,
  ⟨none, (some 85), (.extract (.tmp 81) 1)⟩,
  ⟨none, (some 86), (.extract (.tmp 81) 2)⟩,
  ⟨none, (some 12), (.alloc 29)⟩,
  ⟨none, none, (.store 29 (.tmp 12) (.tmp 84))⟩,
  ⟨none, (some 13), (.assign (.tmp 85))⟩,
  ⟨none, (some 14), (.assign (.tmp 86))⟩]
def c3_r24 : List GOp := [⟨none, (some 87), (.move (.tmp 14))⟩,
  ⟨none, (some 88), (.binOp .eql 36 (.tmp 87) (.const (.int .i64 7)) 36)⟩]
def c3_d25_ops : Array Oper := #[{ dst := (some 89), op := (.move (.tmp 14)), type := 36, pos := "law.go:123", after := #[], guard := none },
  { dst := (some 90), op := (.binOp .neq 36 (.tmp 89) (.const (.int .i64 0)) 36), type := 4, pos := "law.go:123", after := #[⟨0, .data⟩], guard := none },
  { dst := (some 91), op := (.move (.tmp 90)), type := 4, pos := "law.go:123", after := #[⟨1, .data⟩], guard := none },
  { dst := (some 92), op := (.move (.tmp 11)), type := 3, pos := "law.go:123", after := #[⟨2, .guard⟩], guard := (some (2, false)) },
  { dst := (some 93), op := (.move (.tmp 5)), type := 24, pos := "law.go:123", after := #[⟨2, .guard⟩], guard := (some (2, false)) },
  { dst := (some 94), op := (.call { callee := (.builtin .len), args := #[(.tmp 93)], argTypes := #[24] }), type := 3, pos := "law.go:123", after := #[⟨4, .data⟩, ⟨2, .guard⟩], guard := (some (2, false)) },
  { dst := (some 95), op := (.binOp .geq 3 (.tmp 92) (.tmp 94) 3), type := 4, pos := "law.go:123", after := #[⟨3, .data⟩, ⟨5, .data⟩, ⟨2, .guard⟩], guard := (some (2, false)) },
  { dst := (some 96), op := (.pick (.tmp 91) (.const (.bool true)) (.tmp 95)), type := 4, pos := "law.go:123", after := #[⟨2, .data⟩, ⟨6, .data⟩], guard := none },
  { dst := (some 97), op := (.move (.tmp 96)), type := 4, pos := "law.go:123", after := #[⟨7, .data⟩, ⟨2, .chain⟩], guard := none },
  { dst := (some 98), op := (.load 29 (.tmp 12)), type := 29, pos := "law.go:123", after := #[⟨8, .guard⟩], guard := (some (8, false)) },
  { dst := (some 99), op := (.move (.tmp 5)), type := 24, pos := "law.go:123", after := #[⟨8, .guard⟩], guard := (some (8, false)) },
  { dst := (some 100), op := (.move (.tmp 11)), type := 3, pos := "law.go:123", after := #[⟨8, .guard⟩], guard := (some (8, false)) },
  { dst := (some 101), op := (.indexAddr 24 (.tmp 99) (.tmp 100)), type := 0, pos := "law.go:123", after := #[⟨10, .data⟩, ⟨11, .data⟩, ⟨8, .guard⟩], guard := (some (8, false)) },
  { dst := (some 102), op := (.load 29 (.tmp 101)), type := 29, pos := "law.go:123", after := #[⟨12, .data⟩, ⟨8, .guard⟩], guard := (some (8, false)) },
  { dst := (some 103), op := (.call { callee := (.value (.func 11)), args := #[(.tmp 98), (.tmp 102)], argTypes := #[29, 29] }), type := 4, pos := "law.go:123", after := #[⟨9, .data⟩, ⟨13, .data⟩, ⟨8, .chain⟩, ⟨8, .guard⟩], guard := (some (8, false)) },
  { dst := (some 104), op := (.unOp .not 4 (.tmp 103)), type := 4, pos := "law.go:123", after := #[⟨14, .data⟩, ⟨8, .guard⟩], guard := (some (8, false)) },
  { dst := (some 105), op := (.pick (.tmp 97) (.const (.bool true)) (.tmp 104)), type := 4, pos := "law.go:123", after := #[⟨8, .data⟩, ⟨15, .data⟩], guard := none },
  { dst := (some 106), op := (.move (.tmp 105)), type := 4, pos := "law.go:123", after := #[⟨16, .data⟩, ⟨14, .chain⟩], guard := none },
  { dst := (some 107), op := (.move (.tmp 13)), type := 3, pos := "law.go:123", after := #[⟨17, .guard⟩], guard := (some (17, false)) },
  { dst := (some 108), op := (.binOp .lss 3 (.tmp 107) (.const (.int .i64 1)) 3), type := 4, pos := "law.go:123", after := #[⟨18, .data⟩, ⟨17, .guard⟩], guard := (some (17, false)) },
  { dst := (some 109), op := (.pick (.tmp 106) (.const (.bool true)) (.tmp 108)), type := 4, pos := "law.go:123", after := #[⟨17, .data⟩, ⟨19, .data⟩], guard := none },
  { dst := (some 110), op := (.move (.tmp 109)), type := 4, pos := "law.go:123", after := #[⟨20, .data⟩, ⟨17, .chain⟩], guard := none },
  { dst := (some 111), op := (.move (.tmp 13)), type := 3, pos := "law.go:123", after := #[⟨21, .guard⟩], guard := (some (21, false)) },
  { dst := (some 112), op := (.move (.tmp 10)), type := 25, pos := "law.go:123", after := #[⟨21, .guard⟩], guard := (some (21, false)) },
  { dst := (some 113), op := (.call { callee := (.builtin .len), args := #[(.tmp 112)], argTypes := #[25] }), type := 3, pos := "law.go:123", after := #[⟨23, .data⟩, ⟨21, .guard⟩], guard := (some (21, false)) },
  { dst := (some 114), op := (.binOp .gtr 3 (.tmp 111) (.tmp 113) 3), type := 4, pos := "law.go:123", after := #[⟨22, .data⟩, ⟨24, .data⟩, ⟨21, .guard⟩], guard := (some (21, false)) },
  { dst := (some 115), op := (.pick (.tmp 110) (.const (.bool true)) (.tmp 114)), type := 4, pos := "law.go:123", after := #[⟨21, .data⟩, ⟨25, .data⟩], guard := none }]
def c3_d25 : Code := .region 25 c3_d25_ops true
def c3_r26 : List GOp := [⟨none, (some 4), (.assign (.const (.bool false)))⟩]
def c3_r27 : List GOp := [⟨none, (some 116), (.move (.tmp 10))⟩,
  ⟨none, (some 117), (.move (.tmp 13))⟩,
  ⟨none, (some 118), (.slice 25 (.tmp 116) (some (.tmp 117)) none none)⟩,
  ⟨none, (some 10), (.assign (.tmp 118))⟩]
def c3_r28 : List GOp := [⟨none, (some 119), (.move (.tmp 11))⟩,
  ⟨none, (some 120), (.binOp .add 3 (.tmp 119) (.const (.int .i64 1)) 3)⟩,
  ⟨none, (some 11), (.assign (.tmp 120))⟩]
def c3_l1 : AC := (.block 3 (.seq (.reg c3_r23) (.seq (.seq (.reg c3_r24) (.cond (.tmp 88) (.exit 2) .skip)) (.seq (.seq (.raw c3_d25) (.cond (.tmp 115) (.seq (.reg c3_r26) .ret) .skip)) (.seq (.reg c3_r27) (.reg c3_r28))))))
def c3_r29 : List GOp := [⟨none, (some 15), (.assign (.const (.int .i64 0)))⟩]
def c3_r30 : List GOp := [⟨none, (some 121), (.move (.tmp 7))⟩,
  ⟨none, (some 122), (.call { callee := (.builtin .len), args := #[(.tmp 121)], argTypes := #[26] })⟩,
  ⟨none, (some 123), (.move (.const (.int .i64 0)))⟩]
def c3_r31 : List GOp := [⟨none, (some 124), (.binOp .lss 3 (.tmp 123) (.tmp 122) 3)⟩]
def c3_r32 : List GOp := [⟨none, (some 125), (.indexAddr 26 (.tmp 121) (.tmp 123))⟩,
  ⟨none, (some 126), (.load 3 (.tmp 125))⟩,
  ⟨none, (some 17), (.assign (.tmp 126))⟩]
def c3_r33 : List GOp := [⟨none, (some 127), (.move (.tmp 17))⟩,
  ⟨none, (some 128), (.move (.tmp 1))⟩,
  ⟨none, (some 129), (.binOp .leq 3 (.tmp 127) (.tmp 128) 3)⟩]
def c3_r34 : List GOp := [⟨none, (some 130), (.move (.tmp 15))⟩,
  ⟨none, (some 131), (.binOp .add 3 (.tmp 130) (.const (.int .i64 1)) 3)⟩,
  ⟨none, (some 15), (.assign (.tmp 131))⟩]
def c3_r35 : List GOp := [⟨none, (some 132), (.binOp .add 3 (.tmp 123) (.const (.int .i64 1)) 3)⟩,
  ⟨none, (some 123), (.move (.tmp 132))⟩]
def c3_l2 : AC := (.seq (.reg c3_r31) (.seq (.cond (.tmp 124) .skip (.exit 4)) (.seq (.block 5 (.seq (.reg c3_r32) (.seq (.reg c3_r33) (.cond (.tmp 129) (.reg c3_r34) .skip)))) (.reg c3_r35))))
def c3_r36 : List GOp := [⟨none, (some 133), (.move (.tmp 11))⟩,
  ⟨none, (some 134), (.move (.tmp 15))⟩,
  ⟨none, (some 135), (.binOp .eql 3 (.tmp 133) (.tmp 134) 3)⟩,
  ⟨none, (some 136), (.move (.tmp 135))⟩,
  ⟨(some (136, true)), (some 137), (.move (.tmp 1))⟩,
  ⟨(some (136, true)), (some 138), (.move (.tmp 6))⟩,
  ⟨(some (136, true)), (some 139), (.call { callee := (.builtin .len), args := #[(.tmp 138)], argTypes := #[25] })⟩,
  ⟨(some (136, true)), (some 140), (.binOp .lss 3 (.tmp 137) (.tmp 139) 3)⟩,
  ⟨(some (136, true)), (some 141), (.move (.tmp 140))⟩,
  ⟨(some (141, false)), (some 142), (.move (.tmp 10))⟩,
  ⟨(some (141, false)), (some 143), (.call { callee := (.builtin .len), args := #[(.tmp 142)], argTypes := #[25] })⟩,
  ⟨(some (141, false)), (some 144), (.binOp .eql 3 (.tmp 143) (.const (.int .i64 0)) 3)⟩,
  ⟨(some (136, true)), (some 145), (.pick (.tmp 141) (.const (.bool true)) (.tmp 144))⟩,
  ⟨none, (some 146), (.pick (.tmp 136) (.tmp 145) (.const (.bool false)))⟩,
  ⟨none, (some 4), (.assign (.tmp 146))⟩]
/-- corbel/corbellaw24.AskRuns -/
def c3 : AC := (.seq (.reg c3_r0) (.seq (.seq (.reg c3_r1) (.cond (.tmp 19) (.seq (.reg c3_r2) .ret) .skip)) (.seq (.reg c3_r3) (.seq (.reg c3_r4) (.seq (.reg c3_r5) (.seq (.seq (.reg c3_r6) (.block 0 (.loop c3_l0))) (.seq (.reg c3_r20) (.seq (.reg c3_r21) (.seq (.reg c3_r22) (.seq (.block 2 (.loop c3_l1)) (.seq (.reg c3_r29) (.seq (.seq (.reg c3_r30) (.block 4 (.loop c3_l2))) (.seq (.reg c3_r36) .ret)))))))))))))
theorem c3_eq : Try.f3.body.map comp = some c3 := by kernel_rfl
theorem c3_n : Try.f3.ntmps = 147 := by kernel_rfl
theorem c3_rs : Try.f3.results.toList = [.tmp 4] := by kernel_rfl
def c4_r0 : List GOp := [⟨none, (some 4), (.box 32 (.tmp 0))⟩,
  ⟨none, (some 8), (.assign (.const (.bool false)))⟩]
def c4_r1 : List GOp := [⟨none, (some 29), (.call { callee := (.value (.func 5)), args := #[], argTypes := #[] })⟩,
  ⟨none, (some 30), (.unOp .not 4 (.tmp 29))⟩]
def c4_r2 : List GOp := [⟨none, (some 8), (.assign (.const (.bool false)))⟩]
def c4_r3 : List GOp := [⟨none, (some 31), (.load 32 (.tmp 4))⟩,
  ⟨none, (some 32), (.call { callee := (.value (.func 6)), args := #[(.tmp 31)], argTypes := #[32] })⟩,
  ⟨none, (some 9), (.alloc 29)⟩,
  ⟨none, none, (.store 29 (.tmp 9) (.tmp 32))⟩]
def c4_r4 : List GOp := [⟨none, (some 33), (.fieldAddr 29 (.tmp 9) 1)⟩,
  ⟨none, (some 34), (.load 3 (.tmp 33))⟩,
  ⟨none, (some 35), (.call { callee := (.value (.func 7)), args := #[(.tmp 34), (.const (.int .i64 8))], argTypes := #[3, 3] })⟩,
  ⟨none, (some 36), (.fieldAddr 29 (.tmp 9) 1)⟩,
  ⟨none, none, (.store 3 (.tmp 36) (.tmp 35))⟩]
def c4_r5 : List GOp := [⟨none, (some 37), (.fieldAddr 29 (.tmp 9) 0)⟩,
  ⟨none, (some 38), (.load 3 (.tmp 37))⟩,
  ⟨none, (some 39), (.call { callee := (.value (.func 7)), args := #[(.tmp 38), (.const (.int .i64 4))], argTypes := #[3, 3] })⟩,
  ⟨none, (some 40), (.fieldAddr 29 (.tmp 9) 0)⟩,
  ⟨none, none, (.store 3 (.tmp 40) (.tmp 39))⟩]
def c4_r6 : List GOp := [⟨none, (some 41), (.fieldAddr 29 (.tmp 9) 4)⟩,
  ⟨none, (some 42), (.load 3 (.tmp 41))⟩,
  ⟨none, (some 43), (.call { callee := (.value (.func 7)), args := #[(.tmp 42), (.const (.int .i64 200))], argTypes := #[3, 3] })⟩,
  ⟨none, (some 44), (.fieldAddr 29 (.tmp 9) 4)⟩,
  ⟨none, none, (.store 3 (.tmp 44) (.tmp 43))⟩]
def c4_r7 : List GOp := [⟨none, (some 45), (.fieldAddr 29 (.tmp 9) 5)⟩,
  ⟨none, none, (.store 25 (.tmp 45) (.const (.slice none 0 0)))⟩]
def c4_r8 : List GOp := [⟨none, (some 46), (.fieldAddr 29 (.tmp 9) 1)⟩,
  ⟨none, (some 47), (.load 3 (.tmp 46))⟩,
  ⟨none, (some 48), (.binOp .eql 3 (.tmp 47) (.const (.int .i64 1)) 3)⟩]
def c4_r9 : List GOp := [⟨none, (some 49), (.move (.tmp 1))⟩,
  ⟨none, (some 50), (.fieldAddr 29 (.tmp 9) 4)⟩,
  ⟨none, (some 51), (.load 3 (.tmp 50))⟩,
  ⟨none, (some 52), (.call { callee := (.value (.func 8)), args := #[(.tmp 49), (.tmp 51)], argTypes := #[3, 3] })⟩,
  ⟨none, (some 53), (.fieldAddr 29 (.tmp 9) 5)⟩,
  ⟨none, none, (.store 25 (.tmp 53) (.tmp 52))⟩]
def c4_r10 : List GOp := [⟨none, (some 54), (.load 29 (.tmp 9))⟩,
  ⟨none, (some 55), (.call { callee := (.value (.func 9)), args := #[(.tmp 54)], argTypes := #[29] })⟩,
  ⟨none, (some 10), (.assign (.tmp 55))⟩]
def c4_r11 : List GOp := [⟨none, (some 11), (.assign (.const (.int .i64 28)))⟩]
def c4_r12 : List GOp := [⟨none, (some 56), (.fieldAddr 29 (.tmp 9) 1)⟩,
  ⟨none, (some 57), (.load 3 (.tmp 56))⟩,
  ⟨none, (some 58), (.binOp .eql 3 (.tmp 57) (.const (.int .i64 1)) 3)⟩]
def c4_r13 : List GOp := [⟨none, (some 59), (.move (.tmp 11))⟩,
  ⟨none, (some 60), (.fieldAddr 29 (.tmp 9) 4)⟩,
  ⟨none, (some 61), (.load 3 (.tmp 60))⟩,
  ⟨none, (some 62), (.binOp .add 3 (.tmp 59) (.tmp 61) 3)⟩,
  ⟨none, (some 11), (.assign (.tmp 62))⟩]
def c4_r14 : List GOp := [⟨none, (some 63), (.move (.tmp 10))⟩,
  ⟨none, (some 64), (.call { callee := (.builtin .len), args := #[(.tmp 63)], argTypes := #[25] })⟩,
  ⟨none, (some 65), (.move (.tmp 11))⟩,
  ⟨none, (some 66), (.binOp .neq 3 (.tmp 64) (.tmp 65) 3)⟩]
def c4_r15 : List GOp := [⟨none, (some 8), (.assign (.const (.bool false)))⟩]
def c4_r16 : List GOp := [⟨none, (some 67), (.move (.tmp 1))⟩,
  ⟨none, (some 68), (.move (.tmp 11))⟩,
  ⟨none, (some 69), (.call { callee := (.value (.func 7)), args := #[(.tmp 67), (.tmp 68)], argTypes := #[3, 3] })⟩,
  ⟨none, (some 12), (.assign (.tmp 69))⟩]
def c4_r17 : List GOp := [⟨none, (some 71), (.move (.tmp 10))⟩,
  ⟨none, (some 72), (.move (.tmp 12))⟩,
  ⟨none, (some 73), (.slice 25 (.tmp 71) none (some (.tmp 72)) none)⟩,
  ⟨none, (some 74), (.call { callee := (.value (.func 10)), args := #[(.tmp 73)], argTypes := #[25] })⟩,
  ⟨none, (some 70), (.move (.tmp 74))⟩,
  ⟨none, (some 75), (.extract (.tmp 70) 0)⟩,
  ⟨none, (some 76), (.extract (.tmp 70) 1)⟩,
  ⟨none, (some 77), (.extract (.tmp 70) 2)⟩,
  ⟨none, (some 13), (.alloc 29)⟩,
  ⟨none, none, (.store 29 (.tmp 13) (.tmp 75))⟩,
  ⟨none, (some 14), (.assign (.tmp 76))⟩,
  ⟨none, (some 15), (.assign (.tmp 77))⟩]
def c4_r18 : List GOp := [⟨none, (some 79), (.buildSlice 25 0 #[])⟩,
  ⟨none, (some 80), (.move (.tmp 10))⟩,
  ⟨none, (some 81), (.call { callee := (.builtin .append), args := #[(.tmp 79), (.tmp 80)], argTypes := #[25, 25] })⟩,
  ⟨none, (some 82), (.buildSlice 25 3 #[(0, (.const (.int .u8 1))), (1, (.const (.int .u8 2))), (2, (.const (.int .u8 3)))])⟩,
  ⟨none, (some 83), (.call { callee := (.builtin .append), args := #[(.tmp 81), (.tmp 82)], argTypes := #[25, 25] })⟩,
  ⟨none, (some 84), (.call { callee := (.value (.func 10)), args := #[(.tmp 83)], argTypes := #[25] })⟩,
  ⟨none, (some 78), (.move (.tmp 84))⟩,
  ⟨none, (some 85), (.extract (.tmp 78) 0)⟩,
  ⟨none, (some 86), (.extract (.tmp 78) 1)⟩,
  ⟨none, (some 87), (.extract (.tmp 78) 2)⟩,
  ⟨none, (some 16), (.alloc 29)⟩,
  ⟨none, none, (.store 29 (.tmp 16) (.tmp 85))⟩,
  ⟨none, (some 17), (.assign (.tmp 86))⟩,
  ⟨none, (some 18), (.assign (.tmp 87))⟩]
def c4_r19 : List GOp := [⟨none, (some 88), (.move (.tmp 15))⟩,
  ⟨none, (some 89), (.binOp .neq 36 (.tmp 88) (.const (.int .i64 7)) 36)⟩,
  ⟨none, (some 90), (.move (.tmp 89))⟩,
  ⟨(some (90, false)), (some 91), (.move (.tmp 14))⟩,
  ⟨(some (90, false)), (some 92), (.binOp .neq 3 (.tmp 91) (.const (.int .i64 0)) 3)⟩,
  ⟨none, (some 93), (.pick (.tmp 90) (.const (.bool true)) (.tmp 92))⟩,
  ⟨none, (some 94), (.move (.tmp 93))⟩,
  ⟨(some (94, false)), (some 95), (.move (.tmp 18))⟩,
  ⟨(some (94, false)), (some 96), (.binOp .neq 36 (.tmp 95) (.const (.int .i64 0)) 36)⟩,
  ⟨none, (some 97), (.pick (.tmp 94) (.const (.bool true)) (.tmp 96))⟩,
  ⟨none, (some 98), (.move (.tmp 97))⟩,
  ⟨(some (98, false)), (some 99), (.move (.tmp 17))⟩,
  ⟨(some (98, false)), (some 100), (.move (.tmp 11))⟩,
  ⟨(some (98, false)), (some 101), (.binOp .neq 3 (.tmp 99) (.tmp 100) 3)⟩,
  ⟨none, (some 102), (.pick (.tmp 98) (.const (.bool true)) (.tmp 101))⟩,
  ⟨none, (some 103), (.move (.tmp 102))⟩,
  ⟨(some (103, false)), (some 104), (.load 29 (.tmp 16))⟩,
  ⟨(some (103, false)), (some 105), (.load 29 (.tmp 9))⟩,
  ⟨(some (103, false)), (some 106), (.call { callee := (.value (.func 11)), args := #[(.tmp 104), (.tmp 105)], argTypes := #[29, 29] })⟩,
  ⟨(some (103, false)), (some 107), (.unOp .not 4 (.tmp 106))⟩,
  ⟨none, (some 108), (.pick (.tmp 103) (.const (.bool true)) (.tmp 107))⟩]
def c4_r20 : List GOp := [⟨none, (some 8), (.assign (.const (.bool false)))⟩]
def c4_r21 : List GOp := [⟨none, (some 109), (.move (.tmp 2))⟩,
  ⟨none, (some 110), (.binOp .eql 5 (.tmp 109) (.const (.int .u8 0)) 5)⟩]
def c4_r22 : List GOp := [⟨none, (some 8), (.assign (.const (.bool true)))⟩]
def c4_r23 : List GOp := [⟨none, (some 111), (.buildSlice 25 0 #[])⟩,
  ⟨none, (some 112), (.move (.tmp 10))⟩,
  ⟨none, (some 113), (.call { callee := (.builtin .append), args := #[(.tmp 111), (.tmp 112)], argTypes := #[25, 25] })⟩,
  ⟨none, (some 19), (.assign (.tmp 113))⟩]
def c4_r24 : List GOp := [⟨none, (some 114), (.move (.tmp 19))⟩,
  ⟨none, (some 115), (.move (.tmp 3))⟩,
  ⟨none, (some 116), (.call { callee := (.value (.func 7)), args := #[(.tmp 115), (.const (.int .i64 4))], argTypes := #[3, 3] })⟩,
  ⟨none, (some 117), (.indexAddr 25 (.tmp 114) (.tmp 116))⟩,
  ⟨none, (some 118), (.load 5 (.tmp 117))⟩,
  ⟨none, (some 119), (.move (.tmp 2))⟩,
  ⟨none, (some 120), (.binOp .xor 5 (.tmp 118) (.tmp 119) 5)⟩,
  ⟨none, (some 121), (.indexAddr 25 (.tmp 114) (.tmp 116))⟩,
  ⟨none, none, (.store 5 (.tmp 121) (.tmp 120))⟩]
def c4_r25 : List GOp := [⟨none, (some 123), (.move (.tmp 19))⟩,
  ⟨none, (some 124), (.slice 25 (.tmp 123) none (some (.const (.int .i64 4))) none)⟩,
  ⟨none, (some 125), (.call { callee := (.value (.func 10)), args := #[(.tmp 124)], argTypes := #[25] })⟩,
  ⟨none, (some 122), (.move (.tmp 125))⟩,
  ⟨none, (some 126), (.extract (.tmp 122) 0)⟩,
  ⟨none, (some 127), (.extract (.tmp 122) 1)⟩,
  ⟨none, (some 128), (.extract (.tmp 122) 2)⟩,
  ⟨none, (some 20), (.alloc 29)⟩,
  ⟨none, none, (.store 29 (.tmp 20) (.tmp 126))⟩,
  ⟨none, (some 21), (.assign (.tmp 127))⟩,
  ⟨none, (some 22), (.assign (.tmp 128))⟩]
def c4_r26 : List GOp := [⟨none, (some 130), (.move (.tmp 19))⟩,
  ⟨none, (some 131), (.call { callee := (.value (.func 10)), args := #[(.tmp 130)], argTypes := #[25] })⟩,
  ⟨none, (some 129), (.move (.tmp 131))⟩,
  ⟨none, (some 132), (.extract (.tmp 129) 0)⟩,
  ⟨none, (some 133), (.extract (.tmp 129) 1)⟩,
  ⟨none, (some 134), (.extract (.tmp 129) 2)⟩,
  ⟨none, (some 23), (.alloc 29)⟩,
  ⟨none, none, (.store 29 (.tmp 23) (.tmp 132))⟩,
  ⟨none, (some 24), (.assign (.tmp 133))⟩,
  ⟨none, (some 25), (.assign (.tmp 134))⟩]
def c4_r27 : List GOp := [⟨none, (some 136), (.move (.tmp 19))⟩,
  ⟨none, (some 137), (.slice 25 (.tmp 136) none (some (.const (.int .i64 3))) none)⟩,
  ⟨none, (some 138), (.call { callee := (.value (.func 10)), args := #[(.tmp 137)], argTypes := #[25] })⟩,
  ⟨none, (some 135), (.move (.tmp 138))⟩,
  ⟨none, (some 139), (.extract (.tmp 135) 0)⟩,
  ⟨none, (some 140), (.extract (.tmp 135) 1)⟩,
  ⟨none, (some 141), (.extract (.tmp 135) 2)⟩,
  ⟨none, (some 26), (.alloc 29)⟩,
  ⟨none, none, (.store 29 (.tmp 26) (.tmp 139))⟩,
  ⟨none, (some 27), (.assign (.tmp 140))⟩,
  ⟨none, (some 28), (.assign (.tmp 141))⟩]
def c4_r28 : List GOp := [⟨none, (some 142), (.move (.tmp 22))⟩,
  ⟨none, (some 143), (.binOp .eql 36 (.tmp 142) (.const (.int .i64 2)) 36)⟩,
  ⟨none, (some 144), (.move (.tmp 143))⟩,
  ⟨(some (144, true)), (some 145), (.move (.tmp 25))⟩,
  ⟨(some (144, true)), (some 146), (.binOp .eql 36 (.tmp 145) (.const (.int .i64 2)) 36)⟩,
  ⟨none, (some 147), (.pick (.tmp 144) (.tmp 146) (.const (.bool false)))⟩,
  ⟨none, (some 148), (.move (.tmp 147))⟩,
  ⟨(some (148, true)), (some 149), (.move (.tmp 28))⟩,
  ⟨(some (148, true)), (some 150), (.binOp .eql 36 (.tmp 149) (.const (.int .i64 7)) 36)⟩,
  ⟨none, (some 151), (.pick (.tmp 148) (.tmp 150) (.const (.bool false)))⟩,
  ⟨none, (some 8), (.assign (.tmp 151))⟩]
/-- corbel/corbellaw24.AskBounds -/
def c4 : AC := (.seq (.reg c4_r0) (.seq (.seq (.reg c4_r1) (.cond (.tmp 30) (.seq (.reg c4_r2) .ret) .skip)) (.seq (.reg c4_r3) (.seq (.reg c4_r4) (.seq (.reg c4_r5) (.seq (.reg c4_r6) (.seq (.reg c4_r7) (.seq (.seq (.reg c4_r8) (.cond (.tmp 48) (.reg c4_r9) .skip)) (.seq (.reg c4_r10) (.seq (.reg c4_r11) (.seq (.seq (.reg c4_r12) (.cond (.tmp 58) (.reg c4_r13) .skip)) (.seq (.seq (.reg c4_r14) (.cond (.tmp 66) (.seq (.reg c4_r15) .ret) .skip)) (.seq (.reg c4_r16) (.seq (.reg c4_r17) (.seq (.reg c4_r18) (.seq (.seq (.reg c4_r19) (.cond (.tmp 108) (.seq (.reg c4_r20) .ret) .skip)) (.seq (.seq (.reg c4_r21) (.cond (.tmp 110) (.seq (.reg c4_r22) .ret) .skip)) (.seq (.reg c4_r23) (.seq (.reg c4_r24) (.seq (.reg c4_r25) (.seq (.reg c4_r26) (.seq (.reg c4_r27) (.seq (.reg c4_r28) .ret)))))))))))))))))))))))
theorem c4_eq : Try.f4.body.map comp = some c4 := by kernel_rfl
theorem c4_n : Try.f4.ntmps = 152 := by kernel_rfl
theorem c4_rs : Try.f4.results.toList = [.tmp 8] := by kernel_rfl
def c5_r0 : List GOp := [⟨none, (some 0), (.assign (.const (.bool false)))⟩]
def c5_r1 : List GOp := [⟨none, (some 5), (.buildSlice 25 1 #[(0, (.const (.int .u8 1)))])⟩,
  ⟨none, (some 6), (.call { callee := (.value (.func 12)), args := #[(.const (.int .i64 22)), (.const (.int .u64 5)), (.tmp 5)], argTypes := #[3, 27, 25] })⟩,
  ⟨none, (some 1), (.assign (.tmp 6))⟩]
def c5_r2 : List GOp := [⟨none, (some 8), (.buildSlice 25 2 #[(0, (.const (.int .u8 97))), (1, (.const (.int .u8 98)))])⟩,
  ⟨none, (some 9), (.convert 25 25 (.tmp 8))⟩,
  ⟨none, (some 10), (.build 29 #[(1, (.const (.int .i64 1))), (2, (.const (.int .u64 9))), (3, (.const (.int .u64 16))), (4, (.const (.int .i64 2))), (5, (.tmp 9))])⟩,
  ⟨none, (some 11), (.call { callee := (.value (.func 9)), args := #[(.tmp 10)], argTypes := #[29] })⟩,
  ⟨none, (some 12), (.call { callee := (.value (.func 10)), args := #[(.tmp 11)], argTypes := #[25] })⟩,
  ⟨none, (some 7), (.move (.tmp 12))⟩,
  ⟨none, (some 13), (.extract (.tmp 7) 0)⟩,
  ⟨none, (some 14), (.extract (.tmp 7) 1)⟩,
  ⟨none, (some 15), (.extract (.tmp 7) 2)⟩,
  ⟨none, (some 2), (.alloc 29)⟩,
  ⟨none, none, (.store 29 (.tmp 2) (.tmp 13))⟩,
  ⟨none, (some 3), (.assign (.tmp 14))⟩,
  ⟨none, (some 4), (.assign (.tmp 15))⟩]
def c5_r3 : List GOp := [⟨none, (some 16), (.move (.tmp 1))⟩,
  ⟨none, (some 17), (.convert 25 9 (.tmp 16))⟩,
  ⟨none, (some 18), (.binOp .eql 9 (.tmp 17) (.const (.string ⟨#[103, 68, 102, 152, 0, 0, 0, 22, 0, 0, 0, 0, 0, 0, 0, 5]⟩)) 9)⟩,
  ⟨none, (some 19), (.move (.tmp 18))⟩,
  ⟨(some (19, true)), (some 20), (.move (.tmp 4))⟩,
  ⟨(some (19, true)), (some 21), (.binOp .eql 36 (.tmp 20) (.const (.int .i64 0)) 36)⟩,
  ⟨none, (some 22), (.pick (.tmp 19) (.tmp 21) (.const (.bool false)))⟩,
  ⟨none, (some 23), (.move (.tmp 22))⟩,
  ⟨(some (23, true)), (some 24), (.move (.tmp 3))⟩,
  ⟨(some (23, true)), (some 25), (.binOp .eql 3 (.tmp 24) (.const (.int .i64 30)) 3)⟩,
  ⟨none, (some 26), (.pick (.tmp 23) (.tmp 25) (.const (.bool false)))⟩,
  ⟨none, (some 27), (.move (.tmp 26))⟩,
  ⟨(some (27, true)), (some 28), (.fieldAddr 29 (.tmp 2) 2)⟩,
  ⟨(some (27, true)), (some 29), (.load 27 (.tmp 28))⟩,
  ⟨(some (27, true)), (some 30), (.binOp .eql 27 (.tmp 29) (.const (.int .u64 9)) 27)⟩,
  ⟨none, (some 31), (.pick (.tmp 27) (.tmp 30) (.const (.bool false)))⟩,
  ⟨none, (some 32), (.move (.tmp 31))⟩,
  ⟨(some (32, true)), (some 33), (.fieldAddr 29 (.tmp 2) 5)⟩,
  ⟨(some (32, true)), (some 34), (.load 25 (.tmp 33))⟩,
  ⟨(some (32, true)), (some 35), (.convert 25 9 (.tmp 34))⟩,
  ⟨(some (32, true)), (some 36), (.binOp .eql 9 (.tmp 35) (.const (.string ⟨#[97, 98]⟩)) 9)⟩,
  ⟨none, (some 37), (.pick (.tmp 32) (.tmp 36) (.const (.bool false)))⟩,
  ⟨none, (some 0), (.assign (.tmp 37))⟩]
/-- corbel/corbellaw24.known -/
def c5 : AC := (.seq (.reg c5_r0) (.seq (.reg c5_r1) (.seq (.reg c5_r2) (.seq (.reg c5_r3) .ret))))
theorem c5_eq : Try.f5.body.map comp = some c5 := by kernel_rfl
theorem c5_n : Try.f5.ntmps = 38 := by kernel_rfl
theorem c5_rs : Try.f5.results.toList = [.tmp 0] := by kernel_rfl
def c6_r0 : List GOp := [⟨none, (some 1), (.box 32 (.tmp 0))⟩,
  ⟨none, (some 2), (.alloc 29)⟩]
def c6_d1_ops : Array Oper := #[{ dst := (some 4), op := (.fieldAddr 32 (.tmp 1) 0), type := 0, pos := "law.go:41", after := #[], guard := none },
  { dst := (some 5), op := (.load 3 (.tmp 4)), type := 3, pos := "law.go:41", after := #[⟨0, .data⟩], guard := none },
  { dst := (some 6), op := (.call { callee := (.value (.func 7)), args := #[(.tmp 5), (.const (.int .i64 8))], argTypes := #[3, 3] }), type := 3, pos := "law.go:41", after := #[⟨1, .data⟩], guard := none },
  { dst := (some 7), op := (.fieldAddr 32 (.tmp 1) 1), type := 0, pos := "law.go:41", after := #[], guard := none },
  { dst := (some 8), op := (.load 3 (.tmp 7)), type := 3, pos := "law.go:41", after := #[⟨3, .data⟩], guard := none },
  { dst := (some 9), op := (.call { callee := (.value (.func 7)), args := #[(.tmp 8), (.const (.int .i64 3))], argTypes := #[3, 3] }), type := 3, pos := "law.go:41", after := #[⟨4, .data⟩, ⟨2, .chain⟩], guard := none },
  { dst := (some 10), op := (.fieldAddr 32 (.tmp 1) 4), type := 0, pos := "law.go:41", after := #[], guard := none },
  { dst := (some 11), op := (.load 27 (.tmp 10)), type := 27, pos := "law.go:41", after := #[⟨6, .data⟩], guard := none },
  { dst := (some 12), op := (.fieldAddr 32 (.tmp 1) 5), type := 0, pos := "law.go:41", after := #[], guard := none },
  { dst := (some 13), op := (.load 27 (.tmp 12)), type := 27, pos := "law.go:41", after := #[⟨8, .data⟩], guard := none },
  { dst := (some 14), op := (.binOp .rem 27 (.tmp 13) (.const (.int .u64 4096)) 27), type := 27, pos := "law.go:41", after := #[⟨9, .data⟩], guard := none },
  { dst := (some 15), op := (.fieldAddr 32 (.tmp 1) 2), type := 0, pos := "law.go:41", after := #[], guard := none },
  { dst := (some 16), op := (.load 3 (.tmp 15)), type := 3, pos := "law.go:41", after := #[⟨11, .data⟩], guard := none },
  { dst := (some 17), op := (.call { callee := (.value (.func 7)), args := #[(.tmp 16), (.const (.int .i64 200))], argTypes := #[3, 3] }), type := 3, pos := "law.go:41", after := #[⟨12, .data⟩, ⟨5, .chain⟩], guard := none },
  { dst := (some 18), op := (.build 29 #[(1, (.tmp 6)), (0, (.tmp 9)), (2, (.tmp 11)), (3, (.tmp 14)), (4, (.tmp 17))]), type := 29, pos := "law.go:41", after := #[⟨2, .data⟩, ⟨5, .data⟩, ⟨7, .data⟩, ⟨10, .data⟩, ⟨13, .data⟩], guard := none },
  { dst := (some 3), op := (.alloc 29), type := 0, pos := "law.go:41", after := #[], guard := none },
  { dst := none, op := (.store 29 (.tmp 3) (.tmp 18)), type := 0, pos := "law.go:41", after := #[⟨15, .data⟩, ⟨14, .data⟩, ⟨13, .chain⟩, ⟨0, .phase⟩, ⟨1, .phase⟩, ⟨2, .phase⟩, ⟨3, .phase⟩, ⟨4, .phase⟩, ⟨5, .phase⟩, ⟨6, .phase⟩, ⟨7, .phase⟩, ⟨8, .phase⟩, ⟨9, .phase⟩, ⟨10, .phase⟩, ⟨11, .phase⟩, ⟨12, .phase⟩, ⟨13, .phase⟩, ⟨14, .phase⟩, ⟨15, .phase⟩], guard := none }]
def c6_d1 : Code := .region 1 c6_d1_ops true
def c6_r2 : List GOp := [⟨none, (some 19), (.fieldAddr 32 (.tmp 1) 3)⟩,
  ⟨none, (some 20), (.load 3 (.tmp 19))⟩,
  ⟨none, (some 21), (.binOp .rem 3 (.tmp 20) (.const (.int .i64 3)) 3)⟩,
  ⟨none, (some 22), (.binOp .gtr 3 (.tmp 21) (.const (.int .i64 0)) 3)⟩]
def c6_r3 : List GOp := [⟨none, (some 23), (.fieldAddr 29 (.tmp 3) 3)⟩,
  ⟨none, (some 24), (.load 27 (.tmp 23))⟩,
  ⟨none, (some 25), (.binOp .quo 27 (.tmp 24) (.const (.int .u64 16)) 27)⟩,
  ⟨none, (some 26), (.binOp .mul 27 (.tmp 25) (.const (.int .u64 16)) 27)⟩,
  ⟨none, (some 27), (.fieldAddr 29 (.tmp 3) 3)⟩,
  ⟨none, none, (.store 27 (.tmp 27) (.tmp 26))⟩]
def c6_r4 : List GOp := [⟨none, (some 28), (.fieldAddr 29 (.tmp 3) 4)⟩,
  ⟨none, (some 29), (.load 3 (.tmp 28))⟩,
  ⟨none, (some 30), (.binOp .quo 3 (.tmp 29) (.const (.int .i64 16)) 3)⟩,
  ⟨none, (some 31), (.binOp .mul 3 (.tmp 30) (.const (.int .i64 16)) 3)⟩,
  ⟨none, (some 32), (.fieldAddr 29 (.tmp 3) 4)⟩,
  ⟨none, none, (.store 3 (.tmp 32) (.tmp 31))⟩]
def c6_r5 : List GOp := [⟨none, (some 33), (.fieldAddr 32 (.tmp 1) 3)⟩,
  ⟨none, (some 34), (.load 3 (.tmp 33))⟩,
  ⟨none, (some 35), (.call { callee := (.value (.func 7)), args := #[(.tmp 34), (.const (.int .i64 20))], argTypes := #[3, 3] })⟩]
def c6_r6 : List GOp := [⟨none, (some 37), (.binOp .eql 3 (.tmp 35) (.const (.int .i64 14)) 3)⟩,
  ⟨none, (some 36), (.assign (.tmp 37))⟩]
def c6_r7 : List GOp := [⟨none, (some 38), (.fieldAddr 32 (.tmp 1) 0)⟩,
  ⟨none, (some 39), (.load 3 (.tmp 38))⟩,
  ⟨none, (some 40), (.fieldAddr 29 (.tmp 3) 1)⟩,
  ⟨none, none, (.store 3 (.tmp 40) (.tmp 39))⟩]
def c6_r8 : List GOp := [⟨none, (some 42), (.binOp .eql 3 (.tmp 35) (.const (.int .i64 15)) 3)⟩,
  ⟨none, (some 41), (.assign (.tmp 42))⟩]
def c6_r9 : List GOp := [⟨none, (some 43), (.fieldAddr 32 (.tmp 1) 1)⟩,
  ⟨none, (some 44), (.load 3 (.tmp 43))⟩,
  ⟨none, (some 45), (.fieldAddr 29 (.tmp 3) 0)⟩,
  ⟨none, none, (.store 3 (.tmp 45) (.tmp 44))⟩]
def c6_r10 : List GOp := [⟨none, (some 47), (.binOp .eql 3 (.tmp 35) (.const (.int .i64 16)) 3)⟩,
  ⟨none, (some 46), (.assign (.tmp 47))⟩]
def c6_r11 : List GOp := [⟨none, (some 48), (.fieldAddr 32 (.tmp 1) 5)⟩,
  ⟨none, (some 49), (.load 27 (.tmp 48))⟩,
  ⟨none, (some 50), (.fieldAddr 29 (.tmp 3) 3)⟩,
  ⟨none, none, (.store 27 (.tmp 50) (.tmp 49))⟩]
def c6_r12 : List GOp := [⟨none, (some 52), (.binOp .eql 3 (.tmp 35) (.const (.int .i64 17)) 3)⟩,
  ⟨none, (some 51), (.assign (.tmp 52))⟩]
def c6_r13 : List GOp := [⟨none, (some 53), (.fieldAddr 32 (.tmp 1) 2)⟩,
  ⟨none, (some 54), (.load 3 (.tmp 53))⟩,
  ⟨none, (some 55), (.fieldAddr 29 (.tmp 3) 4)⟩,
  ⟨none, none, (.store 3 (.tmp 55) (.tmp 54))⟩]
def c6_r14 : List GOp := [⟨none, (some 57), (.binOp .eql 3 (.tmp 35) (.const (.int .i64 18)) 3)⟩,
  ⟨none, (some 56), (.assign (.tmp 57))⟩]
def c6_r15 : List GOp := [⟨none, (some 58), (.fieldAddr 32 (.tmp 1) 2)⟩,
  ⟨none, (some 59), (.load 3 (.tmp 58))⟩,
  ⟨none, (some 60), (.call { callee := (.value (.func 7)), args := #[(.tmp 59), (.const (.int .i64 40))], argTypes := #[3, 3] })⟩,
  ⟨none, (some 61), (.binOp .add 3 (.const (.int .i64 32768)) (.tmp 60) 3)⟩,
  ⟨none, (some 62), (.binOp .sub 3 (.tmp 61) (.const (.int .i64 20)) 3)⟩,
  ⟨none, (some 63), (.fieldAddr 29 (.tmp 3) 4)⟩,
  ⟨none, none, (.store 3 (.tmp 63) (.tmp 62))⟩]
def c6_r16 : List GOp := [⟨none, (some 64), (.fieldAddr 29 (.tmp 3) 1)⟩,
  ⟨none, (some 65), (.load 3 (.tmp 64))⟩,
  ⟨none, (some 66), (.binOp .eql 3 (.tmp 65) (.const (.int .i64 1)) 3)⟩]
def c6_r17 : List GOp := [⟨none, (some 67), (.fieldAddr 32 (.tmp 1) 1)⟩,
  ⟨none, (some 68), (.load 3 (.tmp 67))⟩,
  ⟨none, (some 69), (.fieldAddr 29 (.tmp 3) 4)⟩,
  ⟨none, (some 70), (.load 3 (.tmp 69))⟩,
  ⟨none, (some 71), (.call { callee := (.builtin .min), args := #[(.const (.int .i64 300)), (.tmp 70)], argTypes := #[3, 3] })⟩,
  ⟨none, (some 72), (.call { callee := (.builtin .max), args := #[(.const (.int .i64 0)), (.tmp 71)], argTypes := #[3, 3] })⟩,
  ⟨none, (some 73), (.call { callee := (.value (.func 8)), args := #[(.tmp 68), (.tmp 72)], argTypes := #[3, 3] })⟩,
  ⟨none, (some 74), (.fieldAddr 29 (.tmp 3) 5)⟩,
  ⟨none, none, (.store 25 (.tmp 74) (.tmp 73))⟩]
def c6_r18 : List GOp := [⟨none, (some 75), (.load 29 (.tmp 3))⟩,
  ⟨none, none, (.store 29 (.tmp 2) (.tmp 75))⟩]
/-- corbel/corbellaw24.of -/
def c6 : AC := (.seq (.reg c6_r0) (.seq (.raw c6_d1) (.seq (.seq (.reg c6_r2) (.cond (.tmp 22) (.seq (.reg c6_r3) (.reg c6_r4)) .skip)) (.seq (.seq (.reg c6_r5) (.block 0 (.seq (.reg c6_r6) (.cond (.tmp 36) (.reg c6_r7) (.seq (.reg c6_r8) (.cond (.tmp 41) (.reg c6_r9) (.seq (.reg c6_r10) (.cond (.tmp 46) (.reg c6_r11) (.seq (.reg c6_r12) (.cond (.tmp 51) (.reg c6_r13) (.seq (.reg c6_r14) (.cond (.tmp 56) (.reg c6_r15) .skip)))))))))))) (.seq (.seq (.reg c6_r16) (.cond (.tmp 66) (.reg c6_r17) .skip)) (.seq (.reg c6_r18) .ret))))))
theorem c6_eq : Try.f6.body.map comp = some c6 := by kernel_rfl
theorem c6_n : Try.f6.ntmps = 76 := by kernel_rfl
theorem c6_rs : Try.f6.results.toList = [.cell 2 29] := by kernel_rfl
def c7_r0 : List GOp := [⟨none, (some 4), (.assign (.const (.int .i64 0)))⟩]
def c7_r1 : List GOp := [⟨none, (some 5), (.move (.tmp 0))⟩,
  ⟨none, (some 6), (.move (.tmp 1))⟩,
  ⟨none, (some 7), (.binOp .rem 3 (.tmp 5) (.tmp 6) 3)⟩,
  ⟨none, (some 0), (.assign (.tmp 7))⟩]
def c7_r2 : List GOp := [⟨none, (some 8), (.move (.tmp 0))⟩,
  ⟨none, (some 9), (.binOp .lss 3 (.tmp 8) (.const (.int .i64 0)) 3)⟩]
def c7_r3 : List GOp := [⟨none, (some 10), (.move (.tmp 0))⟩,
  ⟨none, (some 11), (.move (.tmp 1))⟩,
  ⟨none, (some 12), (.binOp .add 3 (.tmp 10) (.tmp 11) 3)⟩,
  ⟨none, (some 0), (.assign (.tmp 12))⟩]
def c7_r4 : List GOp := [⟨none, (some 13), (.move (.tmp 0))⟩,
  ⟨none, (some 4), (.assign (.tmp 13))⟩]
/-- corbel/corbelhand.Pick -/
def c7 : AC := (.seq (.reg c7_r0) (.seq (.reg c7_r1) (.seq (.seq (.reg c7_r2) (.cond (.tmp 9) (.reg c7_r3) .skip)) (.seq (.reg c7_r4) .ret))))
theorem c7_eq : Try.f7.body.map comp = some c7 := by kernel_rfl
theorem c7_n : Try.f7.ntmps = 14 := by kernel_rfl
theorem c7_rs : Try.f7.results.toList = [.tmp 4] := by kernel_rfl
def c8_r0 : List GOp := [⟨none, (some 4), (.assign (.const (.slice none 0 0)))⟩]
def c8_r1 : List GOp := [⟨none, (some 8), (.move (.tmp 1))⟩,
  ⟨none, (some 9), (.makeSlice 25 (.tmp 8) (.tmp 8))⟩,
  ⟨none, (some 5), (.assign (.tmp 9))⟩]
def c8_r2 : List GOp := [⟨none, (some 10), (.move (.tmp 0))⟩,
  ⟨none, (some 11), (.call { callee := (.value (.func 7)), args := #[(.tmp 10), (.const (.int .i64 7))], argTypes := #[3, 3] })⟩,
  ⟨none, (some 12), (.binOp .eql 3 (.tmp 11) (.const (.int .i64 6)) 3)⟩]
def c8_r3 : List GOp := [⟨none, (some 13), (.move (.tmp 5))⟩,
  ⟨none, (some 4), (.assign (.tmp 13))⟩]
def c8_r4 : List GOp := [⟨none, (some 14), (.move (.tmp 0))⟩,
  ⟨none, (some 15), (.convert 3 27 (.tmp 14))⟩,
  ⟨none, (some 16), (.binOp .mul 27 (.tmp 15) (.const (.int .u64 2654435761)) 27)⟩,
  ⟨none, (some 17), (.binOp .add 27 (.tmp 16) (.const (.int .u64 12345)) 27)⟩,
  ⟨none, (some 6), (.assign (.tmp 17))⟩]
def c8_r5 : List GOp := [⟨none, (some 7), (.assign (.const (.int .i64 0)))⟩]
def c8_r6 : List GOp := [⟨none, (some 18), (.move (.tmp 7))⟩,
  ⟨none, (some 19), (.move (.tmp 1))⟩,
  ⟨none, (some 20), (.binOp .lss 3 (.tmp 18) (.tmp 19) 3)⟩]
def c8_r8 : List GOp := [⟨none, (some 23), (.move (.tmp 6))⟩,
  ⟨none, (some 24), (.binOp .mul 27 (.tmp 23) (.const (.int .u64 6364136223846793005)) 27)⟩,
  ⟨none, (some 25), (.binOp .add 27 (.tmp 24) (.const (.int .u64 1442695040888963407)) 27)⟩,
  ⟨none, (some 6), (.assign (.tmp 25))⟩]
def c8_r9 : List GOp := [⟨none, (some 26), (.move (.tmp 5))⟩,
  ⟨none, (some 27), (.move (.tmp 7))⟩,
  ⟨none, (some 28), (.move (.tmp 6))⟩,
  ⟨none, (some 29), (.binOp .shr 27 (.tmp 28) (.const (.int .u64 56)) 43)⟩,
  ⟨none, (some 30), (.convert 27 5 (.tmp 29))⟩,
  ⟨none, (some 31), (.indexAddr 25 (.tmp 26) (.tmp 27))⟩,
  ⟨none, none, (.store 5 (.tmp 31) (.tmp 30))⟩]
def c8_r7 : List GOp := [⟨none, (some 21), (.move (.tmp 7))⟩,
  ⟨none, (some 22), (.binOp .add 3 (.tmp 21) (.const (.int .i64 1)) 3)⟩,
  ⟨none, (some 7), (.assign (.tmp 22))⟩]
def c8_l0 : AC := (.seq (.seq (.reg c8_r6) (.cond (.tmp 20) .skip (.exit 0))) (.seq (.block 1 (.seq (.reg c8_r8) (.reg c8_r9))) (.reg c8_r7)))
def c8_r10 : List GOp := [⟨none, (some 32), (.move (.tmp 5))⟩,
  ⟨none, (some 4), (.assign (.tmp 32))⟩]
/-- corbel/corbelhand.Bytes -/
def c8 : AC := (.seq (.reg c8_r0) (.seq (.reg c8_r1) (.seq (.seq (.reg c8_r2) (.cond (.tmp 12) (.seq (.reg c8_r3) .ret) .skip)) (.seq (.reg c8_r4) (.seq (.seq (.reg c8_r5) (.block 0 (.loop c8_l0))) (.seq (.reg c8_r10) .ret))))))
theorem c8_eq : Try.f8.body.map comp = some c8 := by kernel_rfl
theorem c8_n : Try.f8.ntmps = 33 := by kernel_rfl
theorem c8_rs : Try.f8.results.toList = [.tmp 4] := by kernel_rfl
def c9_r0 : List GOp := [⟨none, (some 1), (.box 29 (.tmp 0))⟩,
  ⟨none, (some 2), (.assign (.const (.slice none 0 0)))⟩]
def c9_d1_ops : Array Oper := #[{ dst := (some 3), op := (.call { callee := (.value (.func 14)), args := #[(.const (.int .u64 627086611)), (.const (.int .i64 4))], argTypes := #[27, 3] }), type := 25, pos := "ask.go:85", after := #[], guard := none },
  { dst := (some 4), op := (.fieldAddr 29 (.tmp 1) 0), type := 0, pos := "ask.go:85", after := #[], guard := none },
  { dst := (some 5), op := (.load 3 (.tmp 4)), type := 3, pos := "ask.go:85", after := #[⟨1, .data⟩], guard := none },
  { dst := (some 6), op := (.convert 3 27 (.tmp 5)), type := 27, pos := "ask.go:85", after := #[⟨2, .data⟩], guard := none },
  { dst := (some 7), op := (.call { callee := (.value (.func 14)), args := #[(.tmp 6), (.const (.int .i64 2))], argTypes := #[27, 3] }), type := 25, pos := "ask.go:85", after := #[⟨3, .data⟩, ⟨0, .chain⟩], guard := none },
  { dst := (some 8), op := (.fieldAddr 29 (.tmp 1) 1), type := 0, pos := "ask.go:85", after := #[], guard := none },
  { dst := (some 9), op := (.load 3 (.tmp 8)), type := 3, pos := "ask.go:85", after := #[⟨5, .data⟩], guard := none },
  { dst := (some 10), op := (.convert 3 27 (.tmp 9)), type := 27, pos := "ask.go:85", after := #[⟨6, .data⟩], guard := none },
  { dst := (some 11), op := (.call { callee := (.value (.func 14)), args := #[(.tmp 10), (.const (.int .i64 2))], argTypes := #[27, 3] }), type := 25, pos := "ask.go:85", after := #[⟨7, .data⟩, ⟨4, .chain⟩], guard := none },
  { dst := (some 12), op := (.fieldAddr 29 (.tmp 1) 2), type := 0, pos := "ask.go:85", after := #[], guard := none },
  { dst := (some 13), op := (.load 27 (.tmp 12)), type := 27, pos := "ask.go:85", after := #[⟨9, .data⟩], guard := none },
  { dst := (some 14), op := (.call { callee := (.value (.func 14)), args := #[(.tmp 13), (.const (.int .i64 8))], argTypes := #[27, 3] }), type := 25, pos := "ask.go:85", after := #[⟨10, .data⟩, ⟨8, .chain⟩], guard := none },
  { dst := (some 15), op := (.fieldAddr 29 (.tmp 1) 3), type := 0, pos := "ask.go:85", after := #[], guard := none },
  { dst := (some 16), op := (.load 27 (.tmp 15)), type := 27, pos := "ask.go:85", after := #[⟨12, .data⟩], guard := none },
  { dst := (some 17), op := (.call { callee := (.value (.func 14)), args := #[(.tmp 16), (.const (.int .i64 8))], argTypes := #[27, 3] }), type := 25, pos := "ask.go:85", after := #[⟨13, .data⟩, ⟨11, .chain⟩], guard := none },
  { dst := (some 18), op := (.fieldAddr 29 (.tmp 1) 4), type := 0, pos := "ask.go:85", after := #[], guard := none },
  { dst := (some 19), op := (.load 3 (.tmp 18)), type := 3, pos := "ask.go:85", after := #[⟨15, .data⟩], guard := none },
  { dst := (some 20), op := (.convert 3 27 (.tmp 19)), type := 27, pos := "ask.go:85", after := #[⟨16, .data⟩], guard := none },
  { dst := (some 21), op := (.call { callee := (.value (.func 14)), args := #[(.tmp 20), (.const (.int .i64 4))], argTypes := #[27, 3] }), type := 25, pos := "ask.go:85", after := #[⟨17, .data⟩, ⟨14, .chain⟩], guard := none },
  { dst := (some 22), op := (.fieldAddr 29 (.tmp 1) 5), type := 0, pos := "ask.go:85", after := #[], guard := none },
  { dst := (some 23), op := (.load 25 (.tmp 22)), type := 25, pos := "ask.go:85", after := #[⟨19, .data⟩], guard := none },
  { dst := (some 24), op := (.buildSlice 48 7 #[(0, (.tmp 3)), (1, (.tmp 7)), (2, (.tmp 11)), (3, (.tmp 14)), (4, (.tmp 17)), (5, (.tmp 21)), (6, (.tmp 23))]), type := 48, pos := "ask.go:85", after := #[⟨0, .data⟩, ⟨4, .data⟩, ⟨8, .data⟩, ⟨11, .data⟩, ⟨14, .data⟩, ⟨18, .data⟩, ⟨20, .data⟩], guard := none },
  { dst := (some 25), op := (.call { callee := (.value (.func 13)), args := #[(.tmp 24)], argTypes := #[48] }), type := 25, pos := "ask.go:85", after := #[⟨21, .data⟩, ⟨18, .chain⟩], guard := none },
  { dst := (some 2), op := (.assign (.tmp 25)), type := 25, pos := "ask.go:85", after := #[⟨22, .data⟩, ⟨22, .chain⟩, ⟨0, .phase⟩, ⟨1, .phase⟩, ⟨2, .phase⟩, ⟨3, .phase⟩, ⟨4, .phase⟩, ⟨5, .phase⟩, ⟨6, .phase⟩, ⟨7, .phase⟩, ⟨8, .phase⟩, ⟨9, .phase⟩, ⟨10, .phase⟩, ⟨11, .phase⟩, ⟨12, .phase⟩, ⟨13, .phase⟩, ⟨14, .phase⟩, ⟨15, .phase⟩, ⟨16, .phase⟩, ⟨17, .phase⟩, ⟨18, .phase⟩, ⟨19, .phase⟩, ⟨20, .phase⟩, ⟨21, .phase⟩, ⟨22, .phase⟩], guard := none }]
def c9_d1 : Code := .region 1 c9_d1_ops true
/-- corbel/ask.Lay -/
def c9 : AC := (.seq (.reg c9_r0) (.seq (.raw c9_d1) .ret))
theorem c9_eq : Try.f9.body.map comp = some c9 := by kernel_rfl
theorem c9_n : Try.f9.ntmps = 26 := by kernel_rfl
theorem c9_rs : Try.f9.results.toList = [.tmp 2] := by kernel_rfl
def c10_r0 : List GOp := [⟨none, (some 2), (.alloc 29)⟩,
  ⟨none, (some 3), (.assign (.const (.int .i64 0)))⟩,
  ⟨none, (some 4), (.assign (.const (.int .i64 0)))⟩]
def c10_r1 : List GOp := [⟨none, (some 7), (.move (.tmp 0))⟩,
  ⟨none, (some 8), (.call { callee := (.builtin .len), args := #[(.tmp 7)], argTypes := #[25] })⟩,
  ⟨none, (some 9), (.binOp .geq 3 (.tmp 8) (.const (.int .i64 4)) 3)⟩,
  ⟨none, (some 10), (.move (.tmp 9))⟩,
  ⟨(some (10, true)), (some 11), (.move (.tmp 0))⟩,
  ⟨(some (10, true)), (some 12), (.slice 25 (.tmp 11) none (some (.const (.int .i64 4))) none)⟩,
  ⟨(some (10, true)), (some 13), (.call { callee := (.value (.func 15)), args := #[(.tmp 12)], argTypes := #[25] })⟩,
  ⟨(some (10, true)), (some 14), (.binOp .neq 27 (.tmp 13) (.const (.int .u64 627086611)) 27)⟩,
  ⟨none, (some 15), (.pick (.tmp 10) (.tmp 14) (.const (.bool false)))⟩,
  ⟨none, (some 6), (.assign (.tmp 15))⟩]
def c10_r2 : List GOp := [⟨none, (some 16), (.build 29 #[])⟩,
  ⟨none, none, (.store 29 (.tmp 2) (.tmp 16))⟩,
  ⟨none, (some 3), (.assign (.const (.int .i64 0)))⟩,
  ⟨none, (some 4), (.assign (.const (.int .i64 2)))⟩]
def c10_r3 : List GOp := [⟨none, (some 18), (.move (.tmp 0))⟩,
  ⟨none, (some 19), (.call { callee := (.builtin .len), args := #[(.tmp 18)], argTypes := #[25] })⟩,
  ⟨none, (some 20), (.binOp .lss 3 (.tmp 19) (.const (.int .i64 28)) 3)⟩,
  ⟨none, (some 17), (.assign (.tmp 20))⟩]
def c10_r4 : List GOp := [⟨none, (some 21), (.build 29 #[])⟩,
  ⟨none, none, (.store 29 (.tmp 2) (.tmp 21))⟩,
  ⟨none, (some 3), (.assign (.const (.int .i64 0)))⟩,
  ⟨none, (some 4), (.assign (.const (.int .i64 7)))⟩]
def c10_d5_ops : Array Oper := #[{ dst := (some 22), op := (.move (.tmp 0)), type := 25, pos := "ask.go:69", after := #[], guard := none },
  { dst := (some 23), op := (.slice 25 (.tmp 22) (some (.const (.int .i64 4))) (some (.const (.int .i64 6))) none), type := 25, pos := "ask.go:69", after := #[⟨0, .data⟩], guard := none },
  { dst := (some 24), op := (.call { callee := (.value (.func 15)), args := #[(.tmp 23)], argTypes := #[25] }), type := 27, pos := "ask.go:69", after := #[⟨1, .data⟩], guard := none },
  { dst := (some 25), op := (.convert 27 3 (.tmp 24)), type := 3, pos := "ask.go:69", after := #[⟨2, .data⟩], guard := none },
  { dst := (some 26), op := (.move (.tmp 0)), type := 25, pos := "ask.go:69", after := #[], guard := none },
  { dst := (some 27), op := (.slice 25 (.tmp 26) (some (.const (.int .i64 6))) (some (.const (.int .i64 8))) none), type := 25, pos := "ask.go:69", after := #[⟨4, .data⟩], guard := none },
  { dst := (some 28), op := (.call { callee := (.value (.func 15)), args := #[(.tmp 27)], argTypes := #[25] }), type := 27, pos := "ask.go:69", after := #[⟨5, .data⟩, ⟨2, .chain⟩], guard := none },
  { dst := (some 29), op := (.convert 27 3 (.tmp 28)), type := 3, pos := "ask.go:69", after := #[⟨6, .data⟩], guard := none },
  { dst := (some 30), op := (.move (.tmp 0)), type := 25, pos := "ask.go:69", after := #[], guard := none },
  { dst := (some 31), op := (.slice 25 (.tmp 30) (some (.const (.int .i64 8))) (some (.const (.int .i64 16))) none), type := 25, pos := "ask.go:69", after := #[⟨8, .data⟩], guard := none },
  { dst := (some 32), op := (.call { callee := (.value (.func 15)), args := #[(.tmp 31)], argTypes := #[25] }), type := 27, pos := "ask.go:69", after := #[⟨9, .data⟩, ⟨6, .chain⟩], guard := none },
  { dst := (some 33), op := (.move (.tmp 0)), type := 25, pos := "ask.go:69", after := #[], guard := none },
  { dst := (some 34), op := (.slice 25 (.tmp 33) (some (.const (.int .i64 16))) (some (.const (.int .i64 24))) none), type := 25, pos := "ask.go:69", after := #[⟨11, .data⟩], guard := none },
  { dst := (some 35), op := (.call { callee := (.value (.func 15)), args := #[(.tmp 34)], argTypes := #[25] }), type := 27, pos := "ask.go:69", after := #[⟨12, .data⟩, ⟨10, .chain⟩], guard := none },
  { dst := (some 36), op := (.move (.tmp 0)), type := 25, pos := "ask.go:69", after := #[], guard := none },
  { dst := (some 37), op := (.slice 25 (.tmp 36) (some (.const (.int .i64 24))) (some (.const (.int .i64 28))) none), type := 25, pos := "ask.go:69", after := #[⟨14, .data⟩], guard := none },
  { dst := (some 38), op := (.call { callee := (.value (.func 15)), args := #[(.tmp 37)], argTypes := #[25] }), type := 27, pos := "ask.go:69", after := #[⟨15, .data⟩, ⟨13, .chain⟩], guard := none },
  { dst := (some 39), op := (.convert 27 3 (.tmp 38)), type := 3, pos := "ask.go:69", after := #[⟨16, .data⟩], guard := none },
  { dst := (some 40), op := (.build 29 #[(0, (.tmp 25)), (1, (.tmp 29)), (2, (.tmp 32)), (3, (.tmp 35)), (4, (.tmp 39))]), type := 29, pos := "ask.go:69", after := #[⟨3, .data⟩, ⟨7, .data⟩, ⟨10, .data⟩, ⟨13, .data⟩, ⟨17, .data⟩], guard := none },
  { dst := (some 5), op := (.alloc 29), type := 0, pos := "ask.go:69", after := #[], guard := none },
  { dst := none, op := (.store 29 (.tmp 5) (.tmp 40)), type := 0, pos := "ask.go:69", after := #[⟨19, .data⟩, ⟨18, .data⟩, ⟨16, .chain⟩, ⟨0, .phase⟩, ⟨1, .phase⟩, ⟨2, .phase⟩, ⟨3, .phase⟩, ⟨4, .phase⟩, ⟨5, .phase⟩, ⟨6, .phase⟩, ⟨7, .phase⟩, ⟨8, .phase⟩, ⟨9, .phase⟩, ⟨10, .phase⟩, ⟨11, .phase⟩, ⟨12, .phase⟩, ⟨13, .phase⟩, ⟨14, .phase⟩, ⟨15, .phase⟩, ⟨16, .phase⟩, ⟨17, .phase⟩, ⟨18, .phase⟩, ⟨19, .phase⟩], guard := none }]
def c10_d5 : Code := .region 5 c10_d5_ops true
def c10_r6 : List GOp := [⟨none, (some 41), (.fieldAddr 29 (.tmp 5) 1)⟩,
  ⟨none, (some 42), (.load 3 (.tmp 41))⟩,
  ⟨none, (some 43), (.binOp .neq 3 (.tmp 42) (.const (.int .i64 1)) 3)⟩]
def c10_r7 : List GOp := [⟨none, (some 44), (.load 29 (.tmp 5))⟩,
  ⟨none, none, (.store 29 (.tmp 2) (.tmp 44))⟩,
  ⟨none, (some 3), (.assign (.const (.int .i64 28)))⟩,
  ⟨none, (some 4), (.assign (.const (.int .i64 0)))⟩]
def c10_r8 : List GOp := [⟨none, (some 46), (.fieldAddr 29 (.tmp 5) 4)⟩,
  ⟨none, (some 47), (.load 3 (.tmp 46))⟩,
  ⟨none, (some 48), (.binOp .gtr 3 (.tmp 47) (.const (.int .i64 32768)) 3)⟩,
  ⟨none, (some 45), (.assign (.tmp 48))⟩]
def c10_r9 : List GOp := [⟨none, (some 49), (.build 29 #[])⟩,
  ⟨none, none, (.store 29 (.tmp 2) (.tmp 49))⟩,
  ⟨none, (some 3), (.assign (.const (.int .i64 0)))⟩,
  ⟨none, (some 4), (.assign (.const (.int .i64 6)))⟩]
def c10_r10 : List GOp := [⟨none, (some 51), (.move (.tmp 0))⟩,
  ⟨none, (some 52), (.call { callee := (.builtin .len), args := #[(.tmp 51)], argTypes := #[25] })⟩,
  ⟨none, (some 53), (.fieldAddr 29 (.tmp 5) 4)⟩,
  ⟨none, (some 54), (.load 3 (.tmp 53))⟩,
  ⟨none, (some 55), (.binOp .add 3 (.const (.int .i64 28)) (.tmp 54) 3)⟩,
  ⟨none, (some 56), (.binOp .lss 3 (.tmp 52) (.tmp 55) 3)⟩,
  ⟨none, (some 50), (.assign (.tmp 56))⟩]
def c10_r11 : List GOp := [⟨none, (some 57), (.build 29 #[])⟩,
  ⟨none, none, (.store 29 (.tmp 2) (.tmp 57))⟩,
  ⟨none, (some 3), (.assign (.const (.int .i64 0)))⟩,
  ⟨none, (some 4), (.assign (.const (.int .i64 7)))⟩]
def c10_r12 : List GOp := [⟨none, (some 58), (.move (.tmp 0))⟩,
  ⟨none, (some 59), (.fieldAddr 29 (.tmp 5) 4)⟩,
  ⟨none, (some 60), (.load 3 (.tmp 59))⟩,
  ⟨none, (some 61), (.binOp .add 3 (.const (.int .i64 28)) (.tmp 60) 3)⟩,
  ⟨none, (some 62), (.slice 25 (.tmp 58) (some (.const (.int .i64 28))) (some (.tmp 61)) none)⟩,
  ⟨none, (some 63), (.call { callee := (.value (.func 16)), args := #[(.tmp 62)], argTypes := #[25] })⟩,
  ⟨none, (some 64), (.fieldAddr 29 (.tmp 5) 5)⟩,
  ⟨none, none, (.store 25 (.tmp 64) (.tmp 63))⟩]
def c10_d13_ops : Array Oper := #[{ dst := (some 65), op := (.load 29 (.tmp 5)), type := 29, pos := "ask.go:80", after := #[], guard := none },
  { dst := (some 66), op := (.fieldAddr 29 (.tmp 5) 4), type := 0, pos := "ask.go:80", after := #[⟨4, (.gcOnly .lateStores)⟩], guard := none },
  { dst := (some 67), op := (.load 3 (.tmp 66)), type := 3, pos := "ask.go:80", after := #[⟨1, .data⟩, ⟨4, (.gcOnly .lateStores)⟩], guard := none },
  { dst := (some 68), op := (.binOp .add 3 (.const (.int .i64 28)) (.tmp 67) 3), type := 3, pos := "ask.go:80", after := #[⟨2, .data⟩, ⟨4, (.gcOnly .lateStores)⟩], guard := none },
  { dst := none, op := (.store 29 (.tmp 2) (.tmp 65)), type := 0, pos := "ask.go:80", after := #[⟨0, .data⟩, ⟨0, .phase⟩, ⟨1, (.textOnly .lateStores)⟩, ⟨2, (.textOnly .lateStores)⟩, ⟨3, (.textOnly .lateStores)⟩], guard := none },
  { dst := (some 3), op := (.assign (.tmp 68)), type := 3, pos := "ask.go:80", after := #[⟨3, .data⟩, ⟨4, .chain⟩, ⟨0, .phase⟩, ⟨1, .phase⟩, ⟨2, .phase⟩, ⟨3, .phase⟩, ⟨4, .phase⟩], guard := none },
  { dst := (some 4), op := (.assign (.const (.int .i64 0))), type := 36, pos := "ask.go:80", after := #[⟨5, .chain⟩, ⟨0, .phase⟩, ⟨1, .phase⟩, ⟨2, .phase⟩, ⟨3, .phase⟩, ⟨4, .phase⟩, ⟨5, .phase⟩], guard := none }]
def c10_d13 : Code := .region 13 c10_d13_ops true
/-- corbel/ask.Next -/
def c10 : AC := (.seq (.reg c10_r0) (.seq (.block 0 (.seq (.reg c10_r1) (.cond (.tmp 6) (.seq (.reg c10_r2) .ret) (.seq (.reg c10_r3) (.cond (.tmp 17) (.seq (.reg c10_r4) .ret) .skip))))) (.seq (.raw c10_d5) (.seq (.seq (.reg c10_r6) (.cond (.tmp 43) (.seq (.reg c10_r7) .ret) .skip)) (.seq (.block 1 (.seq (.reg c10_r8) (.cond (.tmp 45) (.seq (.reg c10_r9) .ret) (.seq (.reg c10_r10) (.cond (.tmp 50) (.seq (.reg c10_r11) .ret) .skip))))) (.seq (.reg c10_r12) (.seq (.raw c10_d13) .ret)))))))
theorem c10_eq : Try.f10.body.map comp = some c10 := by kernel_rfl
theorem c10_n : Try.f10.ntmps = 69 := by kernel_rfl
theorem c10_rs : Try.f10.results.toList = [.cell 2 29, .tmp 3, .tmp 4] := by kernel_rfl
def c11_r0 : List GOp := [⟨none, (some 2), (.box 29 (.tmp 0))⟩,
  ⟨none, (some 3), (.box 29 (.tmp 1))⟩,
  ⟨none, (some 4), (.assign (.const (.bool false)))⟩]
def c11_r1 : List GOp := [⟨none, (some 5), (.fieldAddr 29 (.tmp 2) 0)⟩,
  ⟨none, (some 6), (.load 3 (.tmp 5))⟩,
  ⟨none, (some 7), (.fieldAddr 29 (.tmp 3) 0)⟩,
  ⟨none, (some 8), (.load 3 (.tmp 7))⟩,
  ⟨none, (some 9), (.binOp .eql 3 (.tmp 6) (.tmp 8) 3)⟩,
  ⟨none, (some 10), (.move (.tmp 9))⟩,
  ⟨(some (10, true)), (some 11), (.fieldAddr 29 (.tmp 2) 1)⟩,
  ⟨(some (10, true)), (some 12), (.load 3 (.tmp 11))⟩,
  ⟨(some (10, true)), (some 13), (.fieldAddr 29 (.tmp 3) 1)⟩,
  ⟨(some (10, true)), (some 14), (.load 3 (.tmp 13))⟩,
  ⟨(some (10, true)), (some 15), (.binOp .eql 3 (.tmp 12) (.tmp 14) 3)⟩,
  ⟨none, (some 16), (.pick (.tmp 10) (.tmp 15) (.const (.bool false)))⟩,
  ⟨none, (some 17), (.move (.tmp 16))⟩,
  ⟨(some (17, true)), (some 18), (.fieldAddr 29 (.tmp 2) 2)⟩,
  ⟨(some (17, true)), (some 19), (.load 27 (.tmp 18))⟩,
  ⟨(some (17, true)), (some 20), (.fieldAddr 29 (.tmp 3) 2)⟩,
  ⟨(some (17, true)), (some 21), (.load 27 (.tmp 20))⟩,
  ⟨(some (17, true)), (some 22), (.binOp .eql 27 (.tmp 19) (.tmp 21) 27)⟩,
  ⟨none, (some 23), (.pick (.tmp 17) (.tmp 22) (.const (.bool false)))⟩,
  ⟨none, (some 24), (.move (.tmp 23))⟩,
  ⟨(some (24, true)), (some 25), (.fieldAddr 29 (.tmp 2) 3)⟩,
  ⟨(some (24, true)), (some 26), (.load 27 (.tmp 25))⟩,
  ⟨(some (24, true)), (some 27), (.fieldAddr 29 (.tmp 3) 3)⟩,
  ⟨(some (24, true)), (some 28), (.load 27 (.tmp 27))⟩,
  ⟨(some (24, true)), (some 29), (.binOp .eql 27 (.tmp 26) (.tmp 28) 27)⟩,
  ⟨none, (some 30), (.pick (.tmp 24) (.tmp 29) (.const (.bool false)))⟩,
  ⟨none, (some 31), (.move (.tmp 30))⟩,
  ⟨(some (31, true)), (some 32), (.fieldAddr 29 (.tmp 2) 4)⟩,
  ⟨(some (31, true)), (some 33), (.load 3 (.tmp 32))⟩,
  ⟨(some (31, true)), (some 34), (.fieldAddr 29 (.tmp 3) 4)⟩,
  ⟨(some (31, true)), (some 35), (.load 3 (.tmp 34))⟩,
  ⟨(some (31, true)), (some 36), (.binOp .eql 3 (.tmp 33) (.tmp 35) 3)⟩,
  ⟨none, (some 37), (.pick (.tmp 31) (.tmp 36) (.const (.bool false)))⟩,
  ⟨none, (some 38), (.move (.tmp 37))⟩,
  ⟨(some (38, true)), (some 39), (.fieldAddr 29 (.tmp 2) 5)⟩,
  ⟨(some (38, true)), (some 40), (.load 25 (.tmp 39))⟩,
  ⟨(some (38, true)), (some 41), (.convert 25 9 (.tmp 40))⟩,
  ⟨(some (38, true)), (some 42), (.fieldAddr 29 (.tmp 3) 5)⟩,
  ⟨(some (38, true)), (some 43), (.load 25 (.tmp 42))⟩,
  ⟨(some (38, true)), (some 44), (.convert 25 9 (.tmp 43))⟩,
  ⟨(some (38, true)), (some 45), (.binOp .eql 9 (.tmp 41) (.tmp 44) 9)⟩,
  ⟨none, (some 46), (.pick (.tmp 38) (.tmp 45) (.const (.bool false)))⟩,
  ⟨none, (some 4), (.assign (.tmp 46))⟩]
/-- corbel/corbellaw24.same -/
def c11 : AC := (.seq (.reg c11_r0) (.seq (.reg c11_r1) .ret))
theorem c11_eq : Try.f11.body.map comp = some c11 := by kernel_rfl
theorem c11_n : Try.f11.ntmps = 47 := by kernel_rfl
theorem c11_rs : Try.f11.results.toList = [.tmp 4] := by kernel_rfl
def c12_r0 : List GOp := [⟨none, (some 6), (.assign (.const (.slice none 0 0)))⟩]
def c12_r1 : List GOp := [⟨none, (some 7), (.move (.tmp 0))⟩,
  ⟨none, (some 8), (.binOp .neq 3 (.tmp 7) (.const (.int .i64 0)) 3)⟩]
def c12_r2 : List GOp := [⟨none, (some 2), (.assign (.const (.slice none 0 0)))⟩]
def c12_r3 : List GOp := [⟨none, (some 9), (.call { callee := (.value (.func 14)), args := #[(.const (.int .u64 1732535960)), (.const (.int .i64 4))], argTypes := #[27, 3] })⟩,
  ⟨none, (some 10), (.move (.tmp 0))⟩,
  ⟨none, (some 11), (.convert 3 27 (.tmp 10))⟩,
  ⟨none, (some 12), (.call { callee := (.value (.func 14)), args := #[(.tmp 11), (.const (.int .i64 4))], argTypes := #[27, 3] })⟩,
  ⟨none, (some 13), (.move (.tmp 1))⟩,
  ⟨none, (some 14), (.call { callee := (.value (.func 14)), args := #[(.tmp 13), (.const (.int .i64 8))], argTypes := #[27, 3] })⟩,
  ⟨none, (some 15), (.move (.tmp 2))⟩,
  ⟨none, (some 16), (.buildSlice 48 4 #[(0, (.tmp 9)), (1, (.tmp 12)), (2, (.tmp 14)), (3, (.tmp 15))])⟩,
  ⟨none, (some 17), (.call { callee := (.value (.func 13)), args := #[(.tmp 16)], argTypes := #[48] })⟩,
  ⟨none, (some 6), (.assign (.tmp 17))⟩]
/-- corbel/ask.Reply -/
def c12 : AC := (.seq (.reg c12_r0) (.seq (.seq (.reg c12_r1) (.cond (.tmp 8) (.reg c12_r2) .skip)) (.seq (.reg c12_r3) .ret)))
theorem c12_eq : Try.f12.body.map comp = some c12 := by kernel_rfl
theorem c12_n : Try.f12.ntmps = 18 := by kernel_rfl
theorem c12_rs : Try.f12.results.toList = [.tmp 6] := by kernel_rfl
def c13_r0 : List GOp := [⟨none, (some 2), (.assign (.const (.slice none 0 0)))⟩]
def c13_r1 : List GOp := [⟨none, (some 3), (.assign (.const (.int .i64 0)))⟩]
def c13_r2 : List GOp := [⟨none, (some 9), (.move (.tmp 0))⟩,
  ⟨none, (some 10), (.call { callee := (.builtin .len), args := #[(.tmp 9)], argTypes := #[48] })⟩,
  ⟨none, (some 11), (.move (.const (.int .i64 0)))⟩]
def c13_r3 : List GOp := [⟨none, (some 12), (.binOp .lss 3 (.tmp 11) (.tmp 10) 3)⟩]
def c13_r4 : List GOp := [⟨none, (some 13), (.indexAddr 48 (.tmp 9) (.tmp 11))⟩,
  ⟨none, (some 14), (.load 25 (.tmp 13))⟩,
  ⟨none, (some 5), (.assign (.tmp 14))⟩]
def c13_r5 : List GOp := [⟨none, (some 15), (.move (.tmp 3))⟩,
  ⟨none, (some 16), (.move (.tmp 5))⟩,
  ⟨none, (some 17), (.call { callee := (.builtin .len), args := #[(.tmp 16)], argTypes := #[25] })⟩,
  ⟨none, (some 18), (.binOp .add 3 (.tmp 15) (.tmp 17) 3)⟩,
  ⟨none, (some 3), (.assign (.tmp 18))⟩]
def c13_r6 : List GOp := [⟨none, (some 19), (.move (.tmp 3))⟩,
  ⟨none, (some 20), (.binOp .lss 3 (.tmp 19) (.const (.int .i64 0)) 3)⟩]
def c13_r7 : List GOp := [⟨none, (some 21), (.makeInterface 9 (.const (.string ⟨#[108, 101, 110, 32, 111, 117, 116, 32, 111, 102, 32, 114, 97, 110, 103, 101]⟩)))⟩,
  ⟨none, none, (.panic (.tmp 21))⟩]
def c13_r8 : List GOp := [⟨none, (some 22), (.binOp .add 3 (.tmp 11) (.const (.int .i64 1)) 3)⟩,
  ⟨none, (some 11), (.move (.tmp 22))⟩]
def c13_l0 : AC := (.seq (.reg c13_r3) (.seq (.cond (.tmp 12) .skip (.exit 0)) (.seq (.block 1 (.seq (.reg c13_r4) (.seq (.reg c13_r5) (.seq (.reg c13_r6) (.cond (.tmp 20) (.reg c13_r7) .skip))))) (.reg c13_r8))))
def c13_r9 : List GOp := [⟨none, (some 23), (.move (.tmp 3))⟩,
  ⟨none, (some 24), (.call { callee := (.value (.func 17)), args := #[(.const (.slice none 0 0)), (.tmp 23)], argTypes := #[25, 3] })⟩,
  ⟨none, (some 6), (.assign (.tmp 24))⟩]
def c13_r10 : List GOp := [⟨none, (some 25), (.move (.tmp 0))⟩,
  ⟨none, (some 26), (.call { callee := (.builtin .len), args := #[(.tmp 25)], argTypes := #[48] })⟩,
  ⟨none, (some 27), (.move (.const (.int .i64 0)))⟩]
def c13_r11 : List GOp := [⟨none, (some 28), (.binOp .lss 3 (.tmp 27) (.tmp 26) 3)⟩]
def c13_r12 : List GOp := [⟨none, (some 29), (.indexAddr 48 (.tmp 25) (.tmp 27))⟩,
  ⟨none, (some 30), (.load 25 (.tmp 29))⟩,
  ⟨none, (some 8), (.assign (.tmp 30))⟩]
def c13_r13 : List GOp := [⟨none, (some 31), (.move (.tmp 6))⟩,
  ⟨none, (some 32), (.move (.tmp 8))⟩,
  ⟨none, (some 33), (.call { callee := (.builtin .append), args := #[(.tmp 31), (.tmp 32)], argTypes := #[25, 25] })⟩,
  ⟨none, (some 6), (.assign (.tmp 33))⟩]
def c13_r14 : List GOp := [⟨none, (some 34), (.binOp .add 3 (.tmp 27) (.const (.int .i64 1)) 3)⟩,
  ⟨none, (some 27), (.move (.tmp 34))⟩]
def c13_l1 : AC := (.seq (.reg c13_r11) (.seq (.cond (.tmp 28) .skip (.exit 2)) (.seq (.block 3 (.seq (.reg c13_r12) (.reg c13_r13))) (.reg c13_r14))))
def c13_r15 : List GOp := [⟨none, (some 35), (.move (.tmp 6))⟩,
  ⟨none, (some 2), (.assign (.tmp 35))⟩]
/-- slices.Concat[[]byte,byte] -/
def c13 : AC := (.seq (.reg c13_r0) (.seq (.reg c13_r1) (.seq (.seq (.reg c13_r2) (.block 0 (.loop c13_l0))) (.seq (.reg c13_r9) (.seq (.seq (.reg c13_r10) (.block 2 (.loop c13_l1))) (.seq (.reg c13_r15) .ret))))))
theorem c13_eq : Try.f13.body.map comp = some c13 := by kernel_rfl
theorem c13_n : Try.f13.ntmps = 36 := by kernel_rfl
theorem c13_rs : Try.f13.results.toList = [.tmp 2] := by kernel_rfl
def c14_r0 : List GOp := [⟨none, (some 4), (.assign (.const (.slice none 0 0)))⟩]
def c14_r1 : List GOp := [⟨none, (some 5), (.assign (.const (.slice none 0 0)))⟩]
def c14_r2 : List GOp := [⟨none, (some 7), (.move (.tmp 1))⟩,
  ⟨none, (some 8), (.binOp .sub 3 (.tmp 7) (.const (.int .i64 1)) 3)⟩,
  ⟨none, (some 6), (.assign (.tmp 8))⟩]
def c14_r3 : List GOp := [⟨none, (some 9), (.move (.tmp 6))⟩,
  ⟨none, (some 10), (.binOp .geq 3 (.tmp 9) (.const (.int .i64 0)) 3)⟩]
def c14_r5 : List GOp := [⟨none, (some 13), (.move (.tmp 5))⟩,
  ⟨none, (some 14), (.move (.tmp 0))⟩,
  ⟨none, (some 15), (.move (.tmp 6))⟩,
  ⟨none, (some 16), (.binOp .mul 3 (.const (.int .i64 8)) (.tmp 15) 3)⟩,
  ⟨none, (some 17), (.binOp .shr 27 (.tmp 14) (.tmp 16) 3)⟩,
  ⟨none, (some 18), (.convert 27 5 (.tmp 17))⟩,
  ⟨none, (some 19), (.buildSlice 25 1 #[(0, (.tmp 18))])⟩,
  ⟨none, (some 20), (.call { callee := (.builtin .append), args := #[(.tmp 13), (.tmp 19)], argTypes := #[25, 25] })⟩,
  ⟨none, (some 5), (.assign (.tmp 20))⟩]
def c14_r4 : List GOp := [⟨none, (some 11), (.move (.tmp 6))⟩,
  ⟨none, (some 12), (.binOp .sub 3 (.tmp 11) (.const (.int .i64 1)) 3)⟩,
  ⟨none, (some 6), (.assign (.tmp 12))⟩]
def c14_l0 : AC := (.seq (.seq (.reg c14_r3) (.cond (.tmp 10) .skip (.exit 0))) (.seq (.block 1 (.reg c14_r5)) (.reg c14_r4)))
def c14_r6 : List GOp := [⟨none, (some 21), (.move (.tmp 5))⟩,
  ⟨none, (some 4), (.assign (.tmp 21))⟩]
/-- corbel/ask.bytes -/
def c14 : AC := (.seq (.reg c14_r0) (.seq (.reg c14_r1) (.seq (.seq (.reg c14_r2) (.block 0 (.loop c14_l0))) (.seq (.reg c14_r6) .ret))))
theorem c14_eq : Try.f14.body.map comp = some c14 := by kernel_rfl
theorem c14_n : Try.f14.ntmps = 22 := by kernel_rfl
theorem c14_rs : Try.f14.results.toList = [.tmp 4] := by kernel_rfl
def c15_r0 : List GOp := [⟨none, (some 2), (.assign (.const (.int .u64 0)))⟩]
def c15_r1 : List GOp := [⟨none, (some 3), (.assign (.const (.int .u64 0)))⟩]
def c15_r2 : List GOp := [⟨none, (some 6), (.move (.tmp 0))⟩,
  ⟨none, (some 7), (.call { callee := (.builtin .len), args := #[(.tmp 6)], argTypes := #[25] })⟩,
  ⟨none, (some 8), (.move (.const (.int .i64 0)))⟩]
def c15_r3 : List GOp := [⟨none, (some 9), (.binOp .lss 3 (.tmp 8) (.tmp 7) 3)⟩]
def c15_r4 : List GOp := [⟨none, (some 10), (.indexAddr 25 (.tmp 6) (.tmp 8))⟩,
  ⟨none, (some 11), (.load 5 (.tmp 10))⟩,
  ⟨none, (some 5), (.assign (.tmp 11))⟩]
def c15_r5 : List GOp := [⟨none, (some 12), (.move (.tmp 3))⟩,
  ⟨none, (some 13), (.binOp .shl 27 (.tmp 12) (.const (.int .u64 8)) 43)⟩,
  ⟨none, (some 14), (.move (.tmp 5))⟩,
  ⟨none, (some 15), (.convert 5 27 (.tmp 14))⟩,
  ⟨none, (some 16), (.binOp .or 27 (.tmp 13) (.tmp 15) 27)⟩,
  ⟨none, (some 3), (.assign (.tmp 16))⟩]
def c15_r6 : List GOp := [⟨none, (some 17), (.binOp .add 3 (.tmp 8) (.const (.int .i64 1)) 3)⟩,
  ⟨none, (some 8), (.move (.tmp 17))⟩]
def c15_l0 : AC := (.seq (.reg c15_r3) (.seq (.cond (.tmp 9) .skip (.exit 0)) (.seq (.block 1 (.seq (.reg c15_r4) (.reg c15_r5))) (.reg c15_r6))))
def c15_r7 : List GOp := [⟨none, (some 18), (.move (.tmp 3))⟩,
  ⟨none, (some 2), (.assign (.tmp 18))⟩]
/-- corbel/ask.number -/
def c15 : AC := (.seq (.reg c15_r0) (.seq (.reg c15_r1) (.seq (.seq (.reg c15_r2) (.block 0 (.loop c15_l0))) (.seq (.reg c15_r7) .ret))))
theorem c15_eq : Try.f15.body.map comp = some c15 := by kernel_rfl
theorem c15_n : Try.f15.ntmps = 19 := by kernel_rfl
theorem c15_rs : Try.f15.results.toList = [.tmp 2] := by kernel_rfl
def c16_r0 : List GOp := [⟨none, (some 2), (.assign (.const (.slice none 0 0)))⟩]
def c16_r1 : List GOp := [⟨none, (some 3), (.move (.tmp 0))⟩,
  ⟨none, (some 4), (.binOp .eql 25 (.tmp 3) (.const (.slice none 0 0)) 25)⟩]
def c16_r2 : List GOp := [⟨none, (some 2), (.assign (.const (.slice none 0 0)))⟩]
def c16_r3 : List GOp := [⟨none, (some 5), (.buildSlice 25 0 #[])⟩,
  ⟨none, (some 6), (.move (.tmp 0))⟩,
  ⟨none, (some 7), (.call { callee := (.builtin .append), args := #[(.tmp 5), (.tmp 6)], argTypes := #[25, 25] })⟩,
  ⟨none, (some 2), (.assign (.tmp 7))⟩]
/-- slices.Clone[[]byte,byte] -/
def c16 : AC := (.seq (.reg c16_r0) (.seq (.seq (.reg c16_r1) (.cond (.tmp 4) (.seq (.reg c16_r2) .ret) .skip)) (.seq (.reg c16_r3) .ret)))
theorem c16_eq : Try.f16.body.map comp = some c16 := by kernel_rfl
theorem c16_n : Try.f16.ntmps = 8 := by kernel_rfl
theorem c16_rs : Try.f16.results.toList = [.tmp 2] := by kernel_rfl
def c17_r0 : List GOp := [⟨none, (some 4), (.assign (.const (.slice none 0 0)))⟩]
def c17_r1 : List GOp := [⟨none, (some 5), (.move (.tmp 1))⟩,
  ⟨none, (some 6), (.binOp .lss 3 (.tmp 5) (.const (.int .i64 0)) 3)⟩]
def c17_r2 : List GOp := [⟨none, (some 7), (.makeInterface 9 (.const (.string ⟨#[99, 97, 110, 110, 111, 116, 32, 98, 101, 32, 110, 101, 103, 97, 116, 105, 118, 101]⟩)))⟩,
  ⟨none, none, (.panic (.tmp 7))⟩]
def c17_r3 : List GOp := [⟨none, (some 8), (.move (.tmp 1))⟩,
  ⟨none, (some 9), (.move (.tmp 0))⟩,
  ⟨none, (some 10), (.call { callee := (.builtin .cap), args := #[(.tmp 9)], argTypes := #[25] })⟩,
  ⟨none, (some 11), (.move (.tmp 0))⟩,
  ⟨none, (some 12), (.call { callee := (.builtin .len), args := #[(.tmp 11)], argTypes := #[25] })⟩,
  ⟨none, (some 13), (.binOp .sub 3 (.tmp 10) (.tmp 12) 3)⟩,
  ⟨none, (some 14), (.binOp .sub 3 (.tmp 8) (.tmp 13) 3)⟩,
  ⟨none, (some 1), (.assign (.tmp 14))⟩]
def c17_r4 : List GOp := [⟨none, (some 15), (.move (.tmp 1))⟩,
  ⟨none, (some 16), (.binOp .gtr 3 (.tmp 15) (.const (.int .i64 0)) 3)⟩]
def c17_r5 : List GOp := [⟨none, (some 17), (.move (.tmp 0))⟩,
  ⟨none, (some 18), (.move (.tmp 0))⟩,
  ⟨none, (some 19), (.call { callee := (.builtin .cap), args := #[(.tmp 18)], argTypes := #[25] })⟩,
  ⟨none, (some 20), (.slice 25 (.tmp 17) none (some (.tmp 19)) none)⟩,
  ⟨none, (some 21), (.move (.tmp 1))⟩,
  ⟨none, (some 22), (.call { callee := (.builtin .append), args := #[(.tmp 20), (.tmp 21)], argTypes := #[25, 3] })⟩,
  ⟨none, (some 23), (.move (.tmp 0))⟩,
  ⟨none, (some 24), (.call { callee := (.builtin .len), args := #[(.tmp 23)], argTypes := #[25] })⟩,
  ⟨none, (some 25), (.slice 25 (.tmp 22) none (some (.tmp 24)) none)⟩,
  ⟨none, (some 0), (.assign (.tmp 25))⟩]
def c17_r6 : List GOp := [⟨none, (some 26), (.move (.tmp 0))⟩,
  ⟨none, (some 4), (.assign (.tmp 26))⟩]
/-- slices.Grow[[]byte,byte] -/
def c17 : AC := (.seq (.reg c17_r0) (.seq (.seq (.reg c17_r1) (.cond (.tmp 6) (.reg c17_r2) .skip)) (.seq (.seq (.reg c17_r3) (.seq (.reg c17_r4) (.cond (.tmp 16) (.reg c17_r5) .skip))) (.seq (.reg c17_r6) .ret))))
theorem c17_eq : Try.f17.body.map comp = some c17 := by kernel_rfl
theorem c17_n : Try.f17.ntmps = 27 := by kernel_rfl
theorem c17_rs : Try.f17.results.toList = [.tmp 4] := by kernel_rfl
end Go.Proofs.Ytapdhhnkgjampaa
