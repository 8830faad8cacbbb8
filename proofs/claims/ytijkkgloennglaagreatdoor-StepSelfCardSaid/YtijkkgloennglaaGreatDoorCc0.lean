/-
  Functions of the translated program, compiled. No condition.
-/
import Derived.Test.YtijkkgloennglaaGreatDoorFw14
import Derived.KernelRfl
import Derived.Test.YtijkkgloennglaaGreatDoorProg
set_option maxRecDepth 100000
namespace Go.Proofs.YtijkkgloennglaaGreatDoor.Ab
open Go Go.RowKit
/-- function 3 -/
def cc3 : CC :=
 .seq (.reg [⟨some 1, .box 24 (.tmp 0), none, false⟩,
   ⟨some 2, .assign (.const (.bool false)), none, false⟩])
 (.seq (.reg [⟨some 14, .call { callee := (.value (.func 6)), args := #[], argTypes := #[] }, none, false⟩,
   ⟨some 13, .move (.tmp 14), none, false⟩,
   ⟨some 15, .extract (.tmp 13) 0, none, false⟩,
   ⟨some 16, .extract (.tmp 13) 1, none, false⟩,
   ⟨some 3, .assign (.tmp 15), none, false⟩,
   ⟨some 4, .assign (.tmp 16), none, false⟩])
 (.seq (.seq (.reg [⟨some 17, .call { callee := (.value (.func 7)), args := #[], argTypes := #[] }, none, false⟩,
   ⟨some 18, .unOp .not 4 (.tmp 17), none, false⟩,
   ⟨some 19, .move (.tmp 18), none, false⟩,
   ⟨some 20, .load 24 (.tmp 1), some (19, false), false⟩,
   ⟨some 21, .call { callee := (.value (.func 8)), args := #[(.tmp 20)], argTypes := #[24] }, some (19, false), false⟩,
   ⟨some 22, .unOp .not 4 (.tmp 21), some (19, false), false⟩,
   ⟨some 23, .pick (.tmp 19) (.const (.bool true)) (.tmp 22), none, false⟩,
   ⟨some 24, .move (.tmp 23), none, false⟩,
   ⟨some 25, .fieldAddr 24 (.tmp 1) 0, some (24, false), false⟩,
   ⟨some 26, .load 4 (.tmp 25), some (24, false), false⟩,
   ⟨some 27, .unOp .not 4 (.tmp 26), some (24, false), false⟩,
   ⟨some 28, .pick (.tmp 24) (.const (.bool true)) (.tmp 27), none, false⟩])
 (.cond (.tmp 28)
 (.seq (.reg [⟨some 29, .call { callee := (.value (.func 7)), args := #[], argTypes := #[] }, none, false⟩,
   ⟨some 2, .assign (.tmp 29), none, false⟩])
 (.ret))
 (.skip)))
 (.seq (.seq (.reg [⟨some 5, .assign (.const (.int .i64 0)), none, false⟩])
 (.block 0
 (.loop [1, 3, 5]
 (.seq (.seq (.reg [⟨some 30, .move (.tmp 5), none, false⟩,
   ⟨some 31, .fieldAddr 24 (.tmp 1) 1, none, false⟩,
   ⟨some 32, .load 22 (.tmp 31), none, false⟩,
   ⟨some 33, .call { callee := (.builtin .len), args := #[(.tmp 32)], argTypes := #[22] }, none, false⟩,
   ⟨some 34, .binOp .lss 3 (.tmp 30) (.tmp 33) 3, none, false⟩])
 (.cond (.tmp 34)
 (.skip)
 (.exit 0)))
 (.seq (.block 1
 (.seq (.reg [⟨some 37, .move (.tmp 3), none, false⟩,
   ⟨some 38, .fieldAddr 24 (.tmp 1) 1, none, false⟩,
   ⟨some 39, .load 22 (.tmp 38), none, false⟩,
   ⟨some 40, .move (.tmp 5), none, false⟩,
   ⟨some 41, .indexAddr 22 (.tmp 39) (.tmp 40), none, false⟩,
   ⟨some 42, .load 9 (.tmp 41), none, false⟩,
   ⟨some 43, .call { callee := (.value (.func 9)), args := #[(.tmp 37), (.tmp 42)], argTypes := #[25, 9] }, none, false⟩,
   ⟨some 44, .unOp .not 4 (.tmp 43), none, false⟩])
 (.cond (.tmp 44)
 (.seq (.reg [⟨some 2, .assign (.const (.bool true)), none, false⟩])
 (.ret))
 (.skip))))
 (.reg [⟨some 35, .move (.tmp 5), none, false⟩,
   ⟨some 36, .binOp .add 3 (.tmp 35) (.const (.int .i64 1)) 3, none, false⟩,
   ⟨some 5, .assign (.tmp 36), none, false⟩]))))))
 (.seq (.seq (.reg [⟨some 6, .assign (.const (.int .i64 0)), none, false⟩])
 (.block 2
 (.loop [1, 3, 6]
 (.seq (.seq (.reg [⟨some 45, .move (.tmp 6), none, false⟩,
   ⟨some 46, .fieldAddr 24 (.tmp 1) 2, none, false⟩,
   ⟨some 47, .load 22 (.tmp 46), none, false⟩,
   ⟨some 48, .call { callee := (.builtin .len), args := #[(.tmp 47)], argTypes := #[22] }, none, false⟩,
   ⟨some 49, .binOp .lss 3 (.tmp 45) (.tmp 48) 3, none, false⟩])
 (.cond (.tmp 49)
 (.skip)
 (.exit 2)))
 (.seq (.block 3
 (.seq (.reg [⟨some 52, .fieldAddr 24 (.tmp 1) 2, none, false⟩,
   ⟨some 53, .load 22 (.tmp 52), none, false⟩,
   ⟨some 54, .move (.tmp 6), none, false⟩,
   ⟨some 55, .indexAddr 22 (.tmp 53) (.tmp 54), none, false⟩,
   ⟨some 56, .load 9 (.tmp 55), none, false⟩,
   ⟨some 57, .binOp .neq 9 (.tmp 56) (.const (.string { data := #[] })) 9, none, false⟩,
   ⟨some 58, .move (.tmp 57), none, false⟩,
   ⟨some 59, .move (.tmp 3), some (58, true), false⟩,
   ⟨some 60, .fieldAddr 24 (.tmp 1) 2, some (58, true), false⟩,
   ⟨some 61, .load 22 (.tmp 60), some (58, true), false⟩,
   ⟨some 62, .move (.tmp 6), some (58, true), false⟩,
   ⟨some 63, .indexAddr 22 (.tmp 61) (.tmp 62), some (58, true), false⟩,
   ⟨some 64, .load 9 (.tmp 63), some (58, true), false⟩,
   ⟨some 65, .call { callee := (.value (.func 9)), args := #[(.tmp 59), (.tmp 64)], argTypes := #[25, 9] }, some (58, true), false⟩,
   ⟨some 66, .unOp .not 4 (.tmp 65), some (58, true), false⟩,
   ⟨some 67, .pick (.tmp 58) (.tmp 66) (.const (.bool false)), none, false⟩])
 (.cond (.tmp 67)
 (.seq (.reg [⟨some 2, .assign (.const (.bool true)), none, false⟩])
 (.ret))
 (.skip))))
 (.reg [⟨some 50, .move (.tmp 6), none, false⟩,
   ⟨some 51, .binOp .add 3 (.tmp 50) (.const (.int .i64 1)) 3, none, false⟩,
   ⟨some 6, .assign (.tmp 51), none, false⟩]))))))
 (.seq (.reg [⟨some 69, .move (.tmp 3), none, false⟩,
   ⟨some 70, .load 24 (.tmp 1), none, false⟩,
   ⟨some 71, .load 24 (.tmp 1), none, false⟩,
   ⟨some 72, .call { callee := (.value (.func 10)), args := #[(.tmp 69), (.tmp 70), (.tmp 71)], argTypes := #[25, 24, 24] }, none, false⟩,
   ⟨some 68, .move (.tmp 72), none, false⟩,
   ⟨some 73, .extract (.tmp 68) 0, none, false⟩,
   ⟨some 74, .extract (.tmp 68) 1, none, false⟩,
   ⟨some 7, .alloc 24, none, false⟩,
   ⟨none, .store 24 (.tmp 7) (.tmp 73), none, false⟩,
   ⟨some 8, .assign (.tmp 74), none, false⟩])
 (.seq (.reg [⟨some 76, .move (.tmp 3), none, false⟩,
   ⟨some 77, .build 24 #[], none, false⟩,
   ⟨some 78, .load 24 (.tmp 1), none, false⟩,
   ⟨some 79, .call { callee := (.value (.func 10)), args := #[(.tmp 76), (.tmp 77), (.tmp 78)], argTypes := #[25, 24, 24] }, none, false⟩,
   ⟨some 75, .move (.tmp 79), none, false⟩,
   ⟨some 80, .extract (.tmp 75) 0, none, false⟩,
   ⟨some 81, .extract (.tmp 75) 1, none, false⟩,
   ⟨some 9, .alloc 24, none, false⟩,
   ⟨none, .store 24 (.tmp 9) (.tmp 80), none, false⟩,
   ⟨some 10, .assign (.tmp 81), none, false⟩])
 (.seq (.reg [⟨some 83, .move (.tmp 3), none, false⟩,
   ⟨some 84, .load 24 (.tmp 1), none, false⟩,
   ⟨some 85, .build 24 #[], none, false⟩,
   ⟨some 86, .call { callee := (.value (.func 10)), args := #[(.tmp 83), (.tmp 84), (.tmp 85)], argTypes := #[25, 24, 24] }, none, false⟩,
   ⟨some 82, .move (.tmp 86), none, false⟩,
   ⟨some 87, .extract (.tmp 82) 0, none, false⟩,
   ⟨some 88, .extract (.tmp 82) 1, none, false⟩,
   ⟨some 11, .alloc 24, none, false⟩,
   ⟨none, .store 24 (.tmp 11) (.tmp 87), none, false⟩,
   ⟨some 12, .assign (.tmp 88), none, false⟩])
 (.seq (.reg [⟨some 89, .move (.tmp 8), none, false⟩,
   ⟨some 90, .binOp .eql 32 (.tmp 89) (.const (.int .i64 0)) 32, none, false⟩,
   ⟨some 91, .move (.tmp 90), none, false⟩,
   ⟨some 92, .move (.tmp 10), some (91, true), false⟩,
   ⟨some 93, .binOp .eql 32 (.tmp 92) (.const (.int .i64 0)) 32, some (91, true), false⟩,
   ⟨some 94, .pick (.tmp 91) (.tmp 93) (.const (.bool false)), none, false⟩,
   ⟨some 95, .move (.tmp 94), none, false⟩,
   ⟨some 96, .move (.tmp 12), some (95, true), false⟩,
   ⟨some 97, .binOp .eql 32 (.tmp 96) (.const (.int .i64 0)) 32, some (95, true), false⟩,
   ⟨some 98, .pick (.tmp 95) (.tmp 97) (.const (.bool false)), none, false⟩,
   ⟨some 99, .move (.tmp 98), none, false⟩,
   ⟨some 100, .load 24 (.tmp 7), some (99, true), false⟩,
   ⟨some 101, .load 24 (.tmp 1), some (99, true), false⟩,
   ⟨some 102, .call { callee := (.value (.func 11)), args := #[(.tmp 100), (.tmp 101)], argTypes := #[24, 24] }, some (99, true), false⟩,
   ⟨some 103, .pick (.tmp 99) (.tmp 102) (.const (.bool false)), none, false⟩,
   ⟨some 104, .move (.tmp 103), none, false⟩,
   ⟨some 105, .load 24 (.tmp 9), some (104, true), false⟩,
   ⟨some 106, .load 24 (.tmp 1), some (104, true), false⟩,
   ⟨some 107, .call { callee := (.value (.func 11)), args := #[(.tmp 105), (.tmp 106)], argTypes := #[24, 24] }, some (104, true), false⟩,
   ⟨some 108, .pick (.tmp 104) (.tmp 107) (.const (.bool false)), none, false⟩,
   ⟨some 109, .move (.tmp 108), none, false⟩,
   ⟨some 110, .load 24 (.tmp 11), some (109, true), false⟩,
   ⟨some 111, .load 24 (.tmp 1), some (109, true), false⟩,
   ⟨some 112, .call { callee := (.value (.func 11)), args := #[(.tmp 110), (.tmp 111)], argTypes := #[24, 24] }, some (109, true), false⟩,
   ⟨some 113, .pick (.tmp 109) (.tmp 112) (.const (.bool false)), none, false⟩,
   ⟨some 114, .move (.tmp 113), none, false⟩,
   ⟨some 115, .load 24 (.tmp 7), some (114, true), false⟩,
   ⟨some 116, .load 24 (.tmp 1), some (114, true), false⟩,
   ⟨some 117, .call { callee := (.value (.func 12)), args := #[(.tmp 115), (.tmp 116)], argTypes := #[24, 24] }, some (114, true), false⟩,
   ⟨some 118, .pick (.tmp 114) (.tmp 117) (.const (.bool false)), none, false⟩,
   ⟨some 2, .assign (.tmp 118), none, false⟩])
 (.ret)))))))))
def fr3 : FR := ⟨119, [.tmp 2], cc3⟩
theorem fnis3 : FnIs Tryz.prog 3 fr3 := ⟨Tryz.f3, _, [[1, 3, 5], [1, 3, 6]], [], Tryz.func3, rfl, by kernel_rfl, by kernel_rfl, by kernel_rfl, by kernel_rfl⟩
/-- function 4 -/
def cc4 : CC :=
 .seq (.reg [⟨some 3, .box 39 (.tmp 1), none, false⟩,
   ⟨some 4, .assign (.const (.bool false)), none, false⟩])
 (.seq (.seq (.reg [⟨some 5, .fieldAddr 39 (.tmp 3) 1, none, false⟩,
   ⟨some 6, .load 22 (.tmp 5), none, false⟩,
   ⟨some 7, .call { callee := (.builtin .len), args := #[(.tmp 6)], argTypes := #[22] }, none, false⟩,
   ⟨some 8, .binOp .gtr 3 (.tmp 7) (.const (.int .i64 100)) 3, none, false⟩,
   ⟨some 9, .move (.tmp 8), none, false⟩,
   ⟨some 10, .fieldAddr 39 (.tmp 3) 4, some (9, false), false⟩,
   ⟨some 11, .load 3 (.tmp 10), some (9, false), false⟩,
   ⟨some 12, .binOp .gtr 3 (.tmp 11) (.const (.int .i64 1000)) 3, some (9, false), false⟩,
   ⟨some 13, .pick (.tmp 9) (.const (.bool true)) (.tmp 12), none, false⟩,
   ⟨some 14, .move (.tmp 13), none, false⟩,
   ⟨some 15, .move (.tmp 0), some (14, false), false⟩,
   ⟨some 16, .call { callee := (.builtin .len), args := #[(.tmp 15)], argTypes := #[9] }, some (14, false), false⟩,
   ⟨some 17, .binOp .gtr 3 (.tmp 16) (.const (.int .i64 100)) 3, some (14, false), false⟩,
   ⟨some 18, .pick (.tmp 14) (.const (.bool true)) (.tmp 17), none, false⟩])
 (.cond (.tmp 18)
 (.seq (.reg [⟨some 19, .call { callee := (.value (.func 7)), args := #[], argTypes := #[] }, none, false⟩,
   ⟨some 4, .assign (.tmp 19), none, false⟩])
 (.ret))
 (.skip)))
 (.seq (.reg [⟨some 20, .call { callee := (.value (.func 7)), args := #[], argTypes := #[] }, none, false⟩,
   ⟨some 21, .move (.tmp 20), none, false⟩,
   ⟨some 22, .move (.tmp 0), some (21, true), false⟩,
   ⟨some 23, .load 39 (.tmp 3), some (21, true), false⟩,
   ⟨some 25, .move (.tmp 0), some (21, true), false⟩,
   ⟨some 26, .load 39 (.tmp 3), some (21, true), false⟩,
   ⟨some 24, .call { callee := (.value (.func 13)), args := #[(.tmp 22), (.tmp 23)], argTypes := #[9, 39] }, some (21, true), false⟩,
   ⟨some 26, .load 39 (.tmp 3), some (21, true), true⟩,
   ⟨some 27, .call { callee := (.value (.func 14)), args := #[(.tmp 25), (.tmp 26)], argTypes := #[9, 39] }, some (21, true), false⟩,
   ⟨some 28, .call { callee := (.value (.func 11)), args := #[(.tmp 24), (.tmp 27)], argTypes := #[24, 24] }, some (21, true), false⟩,
   ⟨some 29, .pick (.tmp 21) (.tmp 28) (.const (.bool false)), none, false⟩,
   ⟨some 4, .assign (.tmp 29), none, false⟩])
 (.ret)))
def fr4 : FR := ⟨30, [.tmp 4], cc4⟩
theorem fnis4 : FnIs Tryz.prog 4 fr4 := ⟨Tryz.f4, _, [], [], Tryz.func4, rfl, by kernel_rfl, by kernel_rfl, by kernel_rfl, by kernel_rfl⟩
/-- function 5 -/
def cc5 : CC :=
 .seq (.reg [⟨some 4, .assign (.const (.bool false)), none, false⟩])
 (.seq (.seq (.reg [⟨some 10, .move (.tmp 0), none, false⟩,
   ⟨some 11, .call { callee := (.builtin .len), args := #[(.tmp 10)], argTypes := #[36] }, none, false⟩,
   ⟨some 12, .binOp .gtr 3 (.tmp 11) (.const (.int .i64 300)) 3, none, false⟩])
 (.cond (.tmp 12)
 (.seq (.reg [⟨some 13, .call { callee := (.value (.func 7)), args := #[], argTypes := #[] }, none, false⟩,
   ⟨some 4, .assign (.tmp 13), none, false⟩])
 (.ret))
 (.skip)))
 (.seq (.reg [⟨some 15, .move (.tmp 0), none, false⟩,
   ⟨some 16, .move (.tmp 1), none, false⟩,
   ⟨some 17, .call { callee := (.value (.func 15)), args := #[(.tmp 15), (.tmp 16)], argTypes := #[36, 3] }, none, false⟩,
   ⟨some 14, .move (.tmp 17), none, false⟩,
   ⟨some 18, .extract (.tmp 14) 0, none, false⟩,
   ⟨some 19, .extract (.tmp 14) 1, none, false⟩,
   ⟨some 5, .assign (.tmp 18), none, false⟩,
   ⟨some 6, .assign (.tmp 19), none, false⟩])
 (.seq (.reg [⟨some 21, .move (.tmp 0), none, false⟩,
   ⟨some 22, .move (.tmp 1), none, false⟩,
   ⟨some 23, .call { callee := (.value (.func 16)), args := #[(.tmp 21), (.tmp 22)], argTypes := #[36, 3] }, none, false⟩,
   ⟨some 20, .move (.tmp 23), none, false⟩,
   ⟨some 24, .extract (.tmp 20) 0, none, false⟩,
   ⟨some 25, .extract (.tmp 20) 1, none, false⟩,
   ⟨some 7, .assign (.tmp 24), none, false⟩,
   ⟨some 8, .assign (.tmp 25), none, false⟩])
 (.seq (.seq (.reg [⟨some 26, .call { callee := (.value (.func 7)), args := #[], argTypes := #[] }, none, false⟩,
   ⟨some 27, .unOp .not 4 (.tmp 26), none, false⟩,
   ⟨some 28, .move (.tmp 27), none, false⟩,
   ⟨some 29, .move (.tmp 6), some (28, false), false⟩,
   ⟨some 30, .move (.tmp 8), some (28, false), false⟩,
   ⟨some 31, .binOp .neq 4 (.tmp 29) (.tmp 30) 4, some (28, false), false⟩,
   ⟨some 32, .pick (.tmp 28) (.const (.bool true)) (.tmp 31), none, false⟩,
   ⟨some 33, .move (.tmp 32), none, false⟩,
   ⟨some 34, .move (.tmp 5), some (33, false), false⟩,
   ⟨some 35, .call { callee := (.builtin .len), args := #[(.tmp 34)], argTypes := #[42] }, some (33, false), false⟩,
   ⟨some 36, .move (.tmp 7), some (33, false), false⟩,
   ⟨some 37, .call { callee := (.builtin .len), args := #[(.tmp 36)], argTypes := #[42] }, some (33, false), false⟩,
   ⟨some 38, .binOp .neq 3 (.tmp 35) (.tmp 37) 3, some (33, false), false⟩,
   ⟨some 39, .pick (.tmp 33) (.const (.bool true)) (.tmp 38), none, false⟩])
 (.cond (.tmp 39)
 (.seq (.reg [⟨some 4, .assign (.const (.bool false)), none, false⟩])
 (.ret))
 (.skip)))
 (.seq (.seq (.reg [⟨some 9, .assign (.const (.int .i64 0)), none, false⟩])
 (.block 0
 (.loop [5, 7, 9]
 (.seq (.seq (.reg [⟨some 40, .move (.tmp 9), none, false⟩,
   ⟨some 41, .move (.tmp 7), none, false⟩,
   ⟨some 42, .call { callee := (.builtin .len), args := #[(.tmp 41)], argTypes := #[42] }, none, false⟩,
   ⟨some 43, .binOp .lss 3 (.tmp 40) (.tmp 42) 3, none, false⟩])
 (.cond (.tmp 43)
 (.skip)
 (.exit 0)))
 (.seq (.block 1
 (.seq (.reg [⟨some 46, .move (.tmp 5), none, false⟩,
   ⟨some 47, .move (.tmp 9), none, false⟩,
   ⟨some 48, .indexAddr 42 (.tmp 46) (.tmp 47), none, false⟩,
   ⟨some 49, .load 3 (.tmp 48), none, false⟩,
   ⟨some 50, .move (.tmp 7), none, false⟩,
   ⟨some 51, .move (.tmp 9), none, false⟩,
   ⟨some 52, .indexAddr 42 (.tmp 50) (.tmp 51), none, false⟩,
   ⟨some 53, .load 3 (.tmp 52), none, false⟩,
   ⟨some 54, .binOp .neq 3 (.tmp 49) (.tmp 53) 3, none, false⟩])
 (.cond (.tmp 54)
 (.seq (.reg [⟨some 4, .assign (.const (.bool false)), none, false⟩])
 (.ret))
 (.skip))))
 (.reg [⟨some 44, .move (.tmp 9), none, false⟩,
   ⟨some 45, .binOp .add 3 (.tmp 44) (.const (.int .i64 1)) 3, none, false⟩,
   ⟨some 9, .assign (.tmp 45), none, false⟩]))))))
 (.seq (.reg [⟨some 4, .assign (.const (.bool true)), none, false⟩])
 (.ret)))))))
def fr5 : FR := ⟨55, [.tmp 4], cc5⟩
theorem fnis5 : FnIs Tryz.prog 5 fr5 := ⟨Tryz.f5, _, [[5, 7, 9]], [], Tryz.func5, rfl, by kernel_rfl, by kernel_rfl, by kernel_rfl, by kernel_rfl⟩
/-- function 6 -/
def cc6 : CC :=
 .seq (.reg [⟨some 0, .assign (.const (.pointer none)), none, false⟩,
   ⟨some 1, .assign (.const (.slice none 0 0)), none, false⟩])
 (.seq (.reg [⟨some 9, .call { callee := (.value (.func 18)), args := #[], argTypes := #[] }, none, false⟩,
   ⟨some 10, .call { callee := (.value (.func 17)), args := #[(.tmp 9)], argTypes := #[26] }, none, false⟩,
   ⟨some 8, .move (.tmp 10), none, false⟩,
   ⟨some 11, .extract (.tmp 8) 0, none, false⟩,
   ⟨some 12, .extract (.tmp 8) 1, none, false⟩,
   ⟨some 13, .extract (.tmp 8) 2, none, false⟩,
   ⟨some 2, .assign (.tmp 11), none, false⟩,
   ⟨some 3, .assign (.tmp 12), none, false⟩,
   ⟨some 4, .assign (.tmp 13), none, false⟩])
 (.seq (.reg [⟨some 15, .call { callee := (.value (.func 18)), args := #[], argTypes := #[] }, none, false⟩,
   ⟨some 16, .call { callee := (.value (.func 19)), args := #[(.tmp 15)], argTypes := #[26] }, none, false⟩,
   ⟨some 14, .move (.tmp 16), none, false⟩,
   ⟨some 17, .extract (.tmp 14) 0, none, false⟩,
   ⟨some 18, .extract (.tmp 14) 1, none, false⟩,
   ⟨some 19, .extract (.tmp 14) 2, none, false⟩,
   ⟨some 5, .assign (.tmp 17), none, false⟩,
   ⟨some 6, .assign (.tmp 18), none, false⟩,
   ⟨some 7, .assign (.tmp 19), none, false⟩])
 (.seq (.seq (.reg [⟨some 20, .move (.tmp 4), none, false⟩,
   ⟨some 21, .binOp .neq 32 (.tmp 20) (.const (.int .i64 0)) 32, none, false⟩,
   ⟨some 22, .move (.tmp 21), none, false⟩,
   ⟨some 23, .move (.tmp 7), some (22, false), false⟩,
   ⟨some 24, .binOp .neq 32 (.tmp 23) (.const (.int .i64 0)) 32, some (22, false), false⟩,
   ⟨some 25, .pick (.tmp 22) (.const (.bool true)) (.tmp 24), none, false⟩,
   ⟨some 26, .move (.tmp 25), none, false⟩,
   ⟨some 27, .move (.tmp 2), some (26, false), false⟩,
   ⟨some 28, .binOp .eql 25 (.tmp 27) (.const (.pointer none)) 25, some (26, false), false⟩,
   ⟨some 29, .pick (.tmp 26) (.const (.bool true)) (.tmp 28), none, false⟩])
 (.cond (.tmp 29)
 (.seq (.reg [⟨some 0, .assign (.const (.pointer none)), none, false⟩,
   ⟨some 1, .assign (.const (.slice none 0 0)), none, false⟩])
 (.ret))
 (.skip)))
 (.seq (.reg [⟨some 30, .move (.tmp 2), none, false⟩,
   ⟨some 31, .move (.tmp 5), none, false⟩,
   ⟨some 0, .assign (.tmp 30), none, false⟩,
   ⟨some 1, .assign (.tmp 31), none, false⟩])
 (.ret)))))
def fr6 : FR := ⟨32, [.tmp 0, .tmp 1], cc6⟩
theorem fnis6 : FnIs Tryz.prog 6 fr6 := ⟨Tryz.f6, _, [], [], Tryz.func6, rfl, by kernel_rfl, by kernel_rfl, by kernel_rfl, by kernel_rfl⟩
/-- function 7 -/
def cc7 : CC :=
 .seq (.reg [⟨some 0, .assign (.const (.bool false)), none, false⟩])
 (.seq (.reg [⟨some 8, .call { callee := (.value (.func 6)), args := #[], argTypes := #[] }, none, false⟩,
   ⟨some 7, .move (.tmp 8), none, false⟩,
   ⟨some 9, .extract (.tmp 7) 0, none, false⟩,
   ⟨some 10, .extract (.tmp 7) 1, none, false⟩,
   ⟨some 1, .assign (.tmp 9), none, false⟩,
   ⟨some 2, .assign (.tmp 10), none, false⟩])
 (.seq (.seq (.reg [⟨some 11, .move (.tmp 1), none, false⟩,
   ⟨some 12, .binOp .eql 25 (.tmp 11) (.const (.pointer none)) 25, none, false⟩,
   ⟨some 13, .move (.tmp 12), none, false⟩,
   ⟨some 14, .move (.tmp 2), some (13, false), false⟩,
   ⟨some 15, .call { callee := (.builtin .len), args := #[(.tmp 14)], argTypes := #[26] }, some (13, false), false⟩,
   ⟨some 16, .binOp .eql 3 (.tmp 15) (.const (.int .i64 0)) 3, some (13, false), false⟩,
   ⟨some 17, .pick (.tmp 13) (.const (.bool true)) (.tmp 16), none, false⟩])
 (.cond (.tmp 17)
 (.seq (.reg [⟨some 0, .assign (.const (.bool false)), none, false⟩])
 (.ret))
 (.skip)))
 (.seq (.reg [⟨some 19, .move (.tmp 1), none, false⟩,
   ⟨some 20, .build 39 #[], none, false⟩,
   ⟨some 21, .build 53 #[(0, (.const (.string { data := #[97, 100, 100] })))], none, false⟩,
   ⟨some 22, .buildSlice 22 2 #[(0, (.const (.string { data := #[105, 110, 116] }))), (1, (.const (.string { data := #[105, 110, 116] })))], none, false⟩,
   ⟨some 23, .build 24 #[(0, (.const (.bool true))), (1, (.tmp 22))], none, false⟩,
   ⟨some 24, .call { callee := (.value (.func 20)), args := #[(.tmp 19), (.tmp 20), (.tmp 21), (.tmp 23)], argTypes := #[25, 39, 53, 24] }, none, false⟩,
   ⟨some 18, .move (.tmp 24), none, false⟩,
   ⟨some 25, .extract (.tmp 18) 0, none, false⟩,
   ⟨some 26, .extract (.tmp 18) 1, none, false⟩,
   ⟨some 3, .alloc 24, none, false⟩,
   ⟨none, .store 24 (.tmp 3) (.tmp 25), none, false⟩,
   ⟨some 4, .assign (.tmp 26), none, false⟩])
 (.seq (.reg [⟨some 28, .move (.tmp 1), none, false⟩,
   ⟨some 29, .buildSlice 22 1 #[(0, (.const (.string { data := #[110, 117, 108, 108] })))], none, false⟩,
   ⟨some 30, .build 24 #[(0, (.const (.bool true))), (1, (.tmp 29))], none, false⟩,
   ⟨some 31, .buildSlice 22 1 #[(0, (.const (.string { data := #[116, 101, 120, 116, 91, 93] })))], none, false⟩,
   ⟨some 32, .build 24 #[(0, (.const (.bool true))), (1, (.tmp 31))], none, false⟩,
   ⟨some 33, .call { callee := (.value (.func 10)), args := #[(.tmp 28), (.tmp 30), (.tmp 32)], argTypes := #[25, 24, 24] }, none, false⟩,
   ⟨some 27, .move (.tmp 33), none, false⟩,
   ⟨some 34, .extract (.tmp 27) 0, none, false⟩,
   ⟨some 35, .extract (.tmp 27) 1, none, false⟩,
   ⟨some 5, .alloc 24, none, false⟩,
   ⟨none, .store 24 (.tmp 5) (.tmp 34), none, false⟩,
   ⟨some 6, .assign (.tmp 35), none, false⟩])
 (.seq (.reg [⟨some 36, .load 24 (.tmp 3), none, false⟩,
   ⟨some 37, .buildSlice 22 1 #[(0, (.const (.string { data := #[105, 110, 116] })))], none, false⟩,
   ⟨some 38, .build 24 #[(0, (.const (.bool true))), (1, (.tmp 37))], none, false⟩,
   ⟨some 39, .call { callee := (.value (.func 11)), args := #[(.tmp 36), (.tmp 38)], argTypes := #[24, 24] }, none, false⟩,
   ⟨some 40, .move (.tmp 39), none, false⟩,
   ⟨some 41, .move (.tmp 4), some (40, true), false⟩,
   ⟨some 42, .binOp .eql 32 (.tmp 41) (.const (.int .i64 0)) 32, some (40, true), false⟩,
   ⟨some 43, .pick (.tmp 40) (.tmp 42) (.const (.bool false)), none, false⟩,
   ⟨some 44, .move (.tmp 43), none, false⟩,
   ⟨some 45, .load 24 (.tmp 5), some (44, true), false⟩,
   ⟨some 46, .buildSlice 22 1 #[(0, (.const (.string { data := #[116, 101, 120, 116, 91, 93] })))], some (44, true), false⟩,
   ⟨some 47, .build 24 #[(0, (.const (.bool true))), (1, (.tmp 46))], some (44, true), false⟩,
   ⟨some 48, .call { callee := (.value (.func 11)), args := #[(.tmp 45), (.tmp 47)], argTypes := #[24, 24] }, some (44, true), false⟩,
   ⟨some 49, .pick (.tmp 44) (.tmp 48) (.const (.bool false)), none, false⟩,
   ⟨some 50, .move (.tmp 49), none, false⟩,
   ⟨some 51, .move (.tmp 6), some (50, true), false⟩,
   ⟨some 52, .binOp .eql 32 (.tmp 51) (.const (.int .i64 0)) 32, some (50, true), false⟩,
   ⟨some 53, .pick (.tmp 50) (.tmp 52) (.const (.bool false)), none, false⟩,
   ⟨some 54, .move (.tmp 53), none, false⟩,
   ⟨some 55, .load 24 (.tmp 3), some (54, true), false⟩,
   ⟨some 56, .load 24 (.tmp 3), some (54, true), false⟩,
   ⟨some 57, .call { callee := (.value (.func 12)), args := #[(.tmp 55), (.tmp 56)], argTypes := #[24, 24] }, some (54, true), false⟩,
   ⟨some 58, .pick (.tmp 54) (.tmp 57) (.const (.bool false)), none, false⟩,
   ⟨some 0, .assign (.tmp 58), none, false⟩])
 (.ret))))))
def fr7 : FR := ⟨59, [.tmp 0], cc7⟩
theorem fnis7 : FnIs Tryz.prog 7 fr7 := ⟨Tryz.f7, _, [], [], Tryz.func7, rfl, by kernel_rfl, by kernel_rfl, by kernel_rfl, by kernel_rfl⟩
/-- function 8 -/
def cc8 : CC :=
 .seq (.reg [⟨some 1, .box 24 (.tmp 0), none, false⟩,
   ⟨some 2, .assign (.const (.bool false)), none, false⟩])
 (.seq (.seq (.reg [⟨some 5, .fieldAddr 24 (.tmp 1) 1, none, false⟩,
   ⟨some 6, .load 22 (.tmp 5), none, false⟩,
   ⟨some 7, .call { callee := (.builtin .len), args := #[(.tmp 6)], argTypes := #[22] }, none, false⟩,
   ⟨some 8, .binOp .gtr 3 (.tmp 7) (.const (.int .i64 40)) 3, none, false⟩,
   ⟨some 9, .move (.tmp 8), none, false⟩,
   ⟨some 10, .fieldAddr 24 (.tmp 1) 2, some (9, false), false⟩,
   ⟨some 11, .load 22 (.tmp 10), some (9, false), false⟩,
   ⟨some 12, .call { callee := (.builtin .len), args := #[(.tmp 11)], argTypes := #[22] }, some (9, false), false⟩,
   ⟨some 13, .binOp .gtr 3 (.tmp 12) (.const (.int .i64 40)) 3, some (9, false), false⟩,
   ⟨some 14, .pick (.tmp 9) (.const (.bool true)) (.tmp 13), none, false⟩])
 (.cond (.tmp 14)
 (.seq (.reg [⟨some 2, .assign (.const (.bool false)), none, false⟩])
 (.ret))
 (.skip)))
 (.seq (.seq (.reg [⟨some 3, .assign (.const (.int .i64 0)), none, false⟩])
 (.block 0
 (.loop [1, 3]
 (.seq (.seq (.reg [⟨some 15, .move (.tmp 3), none, false⟩,
   ⟨some 16, .fieldAddr 24 (.tmp 1) 1, none, false⟩,
   ⟨some 17, .load 22 (.tmp 16), none, false⟩,
   ⟨some 18, .call { callee := (.builtin .len), args := #[(.tmp 17)], argTypes := #[22] }, none, false⟩,
   ⟨some 19, .binOp .lss 3 (.tmp 15) (.tmp 18) 3, none, false⟩])
 (.cond (.tmp 19)
 (.skip)
 (.exit 0)))
 (.seq (.block 1
 (.seq (.reg [⟨some 22, .fieldAddr 24 (.tmp 1) 1, none, false⟩,
   ⟨some 23, .load 22 (.tmp 22), none, false⟩,
   ⟨some 24, .move (.tmp 3), none, false⟩,
   ⟨some 25, .indexAddr 22 (.tmp 23) (.tmp 24), none, false⟩,
   ⟨some 26, .load 9 (.tmp 25), none, false⟩,
   ⟨some 27, .call { callee := (.builtin .len), args := #[(.tmp 26)], argTypes := #[9] }, none, false⟩,
   ⟨some 28, .binOp .gtr 3 (.tmp 27) (.const (.int .i64 100)) 3, none, false⟩])
 (.cond (.tmp 28)
 (.seq (.reg [⟨some 2, .assign (.const (.bool false)), none, false⟩])
 (.ret))
 (.skip))))
 (.reg [⟨some 20, .move (.tmp 3), none, false⟩,
   ⟨some 21, .binOp .add 3 (.tmp 20) (.const (.int .i64 1)) 3, none, false⟩,
   ⟨some 3, .assign (.tmp 21), none, false⟩]))))))
 (.seq (.seq (.reg [⟨some 4, .assign (.const (.int .i64 0)), none, false⟩])
 (.block 2
 (.loop [1, 4]
 (.seq (.seq (.reg [⟨some 29, .move (.tmp 4), none, false⟩,
   ⟨some 30, .fieldAddr 24 (.tmp 1) 2, none, false⟩,
   ⟨some 31, .load 22 (.tmp 30), none, false⟩,
   ⟨some 32, .call { callee := (.builtin .len), args := #[(.tmp 31)], argTypes := #[22] }, none, false⟩,
   ⟨some 33, .binOp .lss 3 (.tmp 29) (.tmp 32) 3, none, false⟩])
 (.cond (.tmp 33)
 (.skip)
 (.exit 2)))
 (.seq (.block 3
 (.seq (.reg [⟨some 36, .fieldAddr 24 (.tmp 1) 2, none, false⟩,
   ⟨some 37, .load 22 (.tmp 36), none, false⟩,
   ⟨some 38, .move (.tmp 4), none, false⟩,
   ⟨some 39, .indexAddr 22 (.tmp 37) (.tmp 38), none, false⟩,
   ⟨some 40, .load 9 (.tmp 39), none, false⟩,
   ⟨some 41, .call { callee := (.builtin .len), args := #[(.tmp 40)], argTypes := #[9] }, none, false⟩,
   ⟨some 42, .binOp .gtr 3 (.tmp 41) (.const (.int .i64 100)) 3, none, false⟩])
 (.cond (.tmp 42)
 (.seq (.reg [⟨some 2, .assign (.const (.bool false)), none, false⟩])
 (.ret))
 (.skip))))
 (.reg [⟨some 34, .move (.tmp 4), none, false⟩,
   ⟨some 35, .binOp .add 3 (.tmp 34) (.const (.int .i64 1)) 3, none, false⟩,
   ⟨some 4, .assign (.tmp 35), none, false⟩]))))))
 (.seq (.reg [⟨some 2, .assign (.const (.bool true)), none, false⟩])
 (.ret)))))
def fr8 : FR := ⟨43, [.tmp 2], cc8⟩
theorem fnis8 : FnIs Tryz.prog 8 fr8 := ⟨Tryz.f8, _, [[1, 3], [1, 4]], [], Tryz.func8, rfl, by kernel_rfl, by kernel_rfl, by kernel_rfl, by kernel_rfl⟩
/-- function 9 -/
def cc9 : CC :=
 .seq (.reg [⟨some 4, .assign (.const (.bool false)), none, false⟩])
 (.seq (.seq (.reg [⟨some 6, .move (.tmp 1), none, false⟩,
   ⟨some 7, .binOp .eql 9 (.tmp 6) (.const (.string { data := #[110, 117, 108, 108] })) 9, none, false⟩])
 (.cond (.tmp 7)
 (.seq (.reg [⟨some 4, .assign (.const (.bool true)), none, false⟩])
 (.ret))
 (.skip)))
 (.seq (.reg [⟨some 8, .move (.tmp 1), none, false⟩,
   ⟨some 9, .call { callee := (.value (.func 21)), args := #[(.tmp 8), (.const (.string { data := #[91, 93] }))], argTypes := #[9, 9] }, none, false⟩,
   ⟨some 5, .assign (.tmp 9), none, false⟩])
 (.seq (.reg [⟨some 10, .move (.tmp 1), none, false⟩,
   ⟨some 11, .call { callee := (.value (.func 22)), args := #[(.tmp 10)], argTypes := #[9] }, none, false⟩,
   ⟨some 12, .move (.tmp 11), none, false⟩,
   ⟨some 13, .move (.tmp 5), some (12, true), false⟩,
   ⟨some 14, .call { callee := (.value (.func 23)), args := #[(.tmp 13)], argTypes := #[9] }, some (12, true), false⟩,
   ⟨some 15, .move (.tmp 14), some (12, true), false⟩,
   ⟨some 16, .move (.tmp 0), some (15, false), false⟩,
   ⟨some 17, .move (.tmp 5), some (15, false), false⟩,
   ⟨some 18, .call { callee := (.value (.func 24)), args := #[(.tmp 16), (.tmp 17)], argTypes := #[25, 9] }, some (15, false), false⟩,
   ⟨some 19, .pick (.tmp 15) (.const (.bool true)) (.tmp 18), some (12, true), false⟩,
   ⟨some 20, .pick (.tmp 12) (.tmp 19) (.const (.bool false)), none, false⟩,
   ⟨some 4, .assign (.tmp 20), none, false⟩])
 (.ret))))
def fr9 : FR := ⟨21, [.tmp 4], cc9⟩
theorem fnis9 : FnIs Tryz.prog 9 fr9 := ⟨Tryz.f9, _, [], [], Tryz.func9, rfl, by kernel_rfl, by kernel_rfl, by kernel_rfl, by kernel_rfl⟩
/-- function 10 -/
def cc10 : CC :=
 .seq (.reg [⟨some 4, .box 24 (.tmp 1), none, false⟩,
   ⟨some 5, .box 24 (.tmp 2), none, false⟩,
   ⟨some 6, .alloc 24, none, false⟩,
   ⟨some 7, .assign (.const (.int .i64 0)), none, false⟩])
 (.seq (.block 0
 (.seq (.reg [⟨some 16, .fieldAddr 24 (.tmp 4) 0, none, false⟩,
   ⟨some 17, .load 4 (.tmp 16), none, false⟩,
   ⟨some 18, .unOp .not 4 (.tmp 17), none, false⟩,
   ⟨some 15, .assign (.tmp 18), none, false⟩])
 (.cond (.tmp 15)
 (.seq (.reg [⟨some 19, .load 24 (.tmp 5), none, false⟩,
   ⟨some 20, .call { callee := (.value (.func 25)), args := #[(.tmp 19)], argTypes := #[24] }, none, false⟩,
   ⟨none, .store 24 (.tmp 6) (.tmp 20), none, false⟩,
   ⟨some 7, .assign (.const (.int .i64 0)), none, false⟩])
 (.ret))
 (.seq (.reg [⟨some 22, .fieldAddr 24 (.tmp 5) 0, none, false⟩,
   ⟨some 23, .load 4 (.tmp 22), none, false⟩,
   ⟨some 24, .unOp .not 4 (.tmp 23), none, false⟩,
   ⟨some 21, .assign (.tmp 24), none, false⟩])
 (.cond (.tmp 21)
 (.seq (.reg [⟨some 25, .load 24 (.tmp 4), none, false⟩,
   ⟨some 26, .call { callee := (.value (.func 25)), args := #[(.tmp 25)], argTypes := #[24] }, none, false⟩,
   ⟨none, .store 24 (.tmp 6) (.tmp 26), none, false⟩,
   ⟨some 7, .assign (.const (.int .i64 0)), none, false⟩])
 (.ret))
 (.seq (.reg [⟨some 28, .fieldAddr 24 (.tmp 4) 1, none, false⟩,
   ⟨some 29, .load 22 (.tmp 28), none, false⟩,
   ⟨some 30, .call { callee := (.builtin .len), args := #[(.tmp 29)], argTypes := #[22] }, none, false⟩,
   ⟨some 31, .fieldAddr 24 (.tmp 5) 1, none, false⟩,
   ⟨some 32, .load 22 (.tmp 31), none, false⟩,
   ⟨some 33, .call { callee := (.builtin .len), args := #[(.tmp 32)], argTypes := #[22] }, none, false⟩,
   ⟨some 34, .binOp .neq 3 (.tmp 30) (.tmp 33) 3, none, false⟩,
   ⟨some 35, .move (.tmp 34), none, false⟩,
   ⟨some 36, .fieldAddr 24 (.tmp 4) 2, some (35, false), false⟩,
   ⟨some 37, .load 22 (.tmp 36), some (35, false), false⟩,
   ⟨some 38, .call { callee := (.builtin .len), args := #[(.tmp 37)], argTypes := #[22] }, some (35, false), false⟩,
   ⟨some 39, .fieldAddr 24 (.tmp 5) 2, some (35, false), false⟩,
   ⟨some 40, .load 22 (.tmp 39), some (35, false), false⟩,
   ⟨some 41, .call { callee := (.builtin .len), args := #[(.tmp 40)], argTypes := #[22] }, some (35, false), false⟩,
   ⟨some 42, .binOp .neq 3 (.tmp 38) (.tmp 41) 3, some (35, false), false⟩,
   ⟨some 43, .pick (.tmp 35) (.const (.bool true)) (.tmp 42), none, false⟩,
   ⟨some 27, .assign (.tmp 43), none, false⟩])
 (.cond (.tmp 27)
 (.seq (.reg [⟨some 44, .build 24 #[], none, false⟩,
   ⟨none, .store 24 (.tmp 6) (.tmp 44), none, false⟩,
   ⟨some 7, .assign (.const (.int .i64 75)), none, false⟩])
 (.ret))
 (.skip))))))))
 (.seq (.reg [⟨some 45, .build 24 #[(0, (.const (.bool true)))], none, false⟩,
   ⟨some 8, .alloc 24, none, false⟩,
   ⟨none, .store 24 (.tmp 8) (.tmp 45), none, false⟩])
 (.seq (.seq (.reg [⟨some 46, .fieldAddr 24 (.tmp 4) 1, none, false⟩,
   ⟨some 47, .load 22 (.tmp 46), none, false⟩,
   ⟨some 48, .call { callee := (.builtin .len), args := #[(.tmp 47)], argTypes := #[22] }, none, false⟩,
   ⟨some 49, .move (.const (.int .i64 0)), none, false⟩])
 (.block 1
 (.loop [0, 4, 5, 6, 8, 47, 48, 49]
 (.seq (.reg [⟨some 50, .binOp .lss 3 (.tmp 49) (.tmp 48) 3, none, false⟩])
 (.seq (.cond (.tmp 50)
 (.skip)
 (.exit 1))
 (.seq (.block 2
 (.seq (.reg [⟨some 51, .move (.tmp 49), none, false⟩,
   ⟨some 52, .indexAddr 22 (.tmp 47) (.tmp 49), none, false⟩,
   ⟨some 53, .load 9 (.tmp 52), none, false⟩,
   ⟨some 9, .assign (.tmp 51), none, false⟩,
   ⟨some 10, .assign (.tmp 53), none, false⟩])
 (.seq (.reg [⟨some 54, .move (.tmp 0), none, false⟩,
   ⟨some 55, .move (.tmp 10), none, false⟩,
   ⟨some 56, .fieldAddr 24 (.tmp 5) 1, none, false⟩,
   ⟨some 57, .load 22 (.tmp 56), none, false⟩,
   ⟨some 58, .move (.tmp 9), none, false⟩,
   ⟨some 59, .indexAddr 22 (.tmp 57) (.tmp 58), none, false⟩,
   ⟨some 60, .load 9 (.tmp 59), none, false⟩,
   ⟨some 61, .call { callee := (.value (.func 26)), args := #[(.tmp 54), (.tmp 55), (.tmp 60)], argTypes := #[25, 9, 9] }, none, false⟩,
   ⟨some 11, .assign (.tmp 61), none, false⟩])
 (.seq (.seq (.reg [⟨some 62, .move (.tmp 11), none, false⟩,
   ⟨some 63, .binOp .eql 9 (.tmp 62) (.const (.string { data := #[] })) 9, none, false⟩])
 (.cond (.tmp 63)
 (.seq (.reg [⟨some 64, .build 24 #[], none, false⟩,
   ⟨none, .store 24 (.tmp 6) (.tmp 64), none, false⟩,
   ⟨some 7, .assign (.const (.int .i64 75)), none, false⟩])
 (.ret))
 (.skip)))
 (.reg [⟨some 65, .fieldAddr 24 (.tmp 8) 1, none, false⟩,
   ⟨some 66, .load 22 (.tmp 65), none, false⟩,
   ⟨some 67, .move (.tmp 11), none, false⟩,
   ⟨some 68, .buildSlice 22 1 #[(0, (.tmp 67))], none, false⟩,
   ⟨some 69, .call { callee := (.builtin .append), args := #[(.tmp 66), (.tmp 68)], argTypes := #[22, 22] }, none, false⟩,
   ⟨some 70, .fieldAddr 24 (.tmp 8) 1, none, false⟩,
   ⟨none, .store 22 (.tmp 70) (.tmp 69), none, false⟩])))))
 (.reg [⟨some 71, .binOp .add 3 (.tmp 49) (.const (.int .i64 1)) 3, none, false⟩,
   ⟨some 49, .move (.tmp 71), none, false⟩])))))))
 (.seq (.seq (.reg [⟨some 72, .fieldAddr 24 (.tmp 4) 2, none, false⟩,
   ⟨some 73, .load 22 (.tmp 72), none, false⟩,
   ⟨some 74, .call { callee := (.builtin .len), args := #[(.tmp 73)], argTypes := #[22] }, none, false⟩,
   ⟨some 75, .move (.const (.int .i64 0)), none, false⟩])
 (.block 3
 (.loop [0, 5, 6, 8, 73, 74, 75]
 (.seq (.reg [⟨some 76, .binOp .lss 3 (.tmp 75) (.tmp 74) 3, none, false⟩])
 (.seq (.cond (.tmp 76)
 (.skip)
 (.exit 3))
 (.seq (.block 4
 (.seq (.reg [⟨some 77, .move (.tmp 75), none, false⟩,
   ⟨some 78, .indexAddr 22 (.tmp 73) (.tmp 75), none, false⟩,
   ⟨some 79, .load 9 (.tmp 78), none, false⟩,
   ⟨some 12, .assign (.tmp 77), none, false⟩,
   ⟨some 13, .assign (.tmp 79), none, false⟩])
 (.seq (.reg [⟨some 14, .assign (.const (.string { data := #[] })), none, false⟩])
 (.seq (.seq (.reg [⟨some 80, .move (.tmp 13), none, false⟩,
   ⟨some 81, .binOp .neq 9 (.tmp 80) (.const (.string { data := #[] })) 9, none, false⟩,
   ⟨some 82, .move (.tmp 81), none, false⟩,
   ⟨some 83, .fieldAddr 24 (.tmp 5) 2, some (82, true), false⟩,
   ⟨some 84, .load 22 (.tmp 83), some (82, true), false⟩,
   ⟨some 85, .move (.tmp 12), some (82, true), false⟩,
   ⟨some 86, .indexAddr 22 (.tmp 84) (.tmp 85), some (82, true), false⟩,
   ⟨some 87, .load 9 (.tmp 86), some (82, true), false⟩,
   ⟨some 88, .binOp .neq 9 (.tmp 87) (.const (.string { data := #[] })) 9, some (82, true), false⟩,
   ⟨some 89, .pick (.tmp 82) (.tmp 88) (.const (.bool false)), none, false⟩])
 (.cond (.tmp 89)
 (.reg [⟨some 90, .move (.tmp 0), none, false⟩,
   ⟨some 91, .move (.tmp 13), none, false⟩,
   ⟨some 92, .fieldAddr 24 (.tmp 5) 2, none, false⟩,
   ⟨some 93, .load 22 (.tmp 92), none, false⟩,
   ⟨some 94, .move (.tmp 12), none, false⟩,
   ⟨some 95, .indexAddr 22 (.tmp 93) (.tmp 94), none, false⟩,
   ⟨some 96, .load 9 (.tmp 95), none, false⟩,
   ⟨some 97, .call { callee := (.value (.func 26)), args := #[(.tmp 90), (.tmp 91), (.tmp 96)], argTypes := #[25, 9, 9] }, none, false⟩,
   ⟨some 14, .assign (.tmp 97), none, false⟩])
 (.skip)))
 (.reg [⟨some 98, .fieldAddr 24 (.tmp 8) 2, none, false⟩,
   ⟨some 99, .load 22 (.tmp 98), none, false⟩,
   ⟨some 100, .move (.tmp 14), none, false⟩,
   ⟨some 101, .buildSlice 22 1 #[(0, (.tmp 100))], none, false⟩,
   ⟨some 102, .call { callee := (.builtin .append), args := #[(.tmp 99), (.tmp 101)], argTypes := #[22, 22] }, none, false⟩,
   ⟨some 103, .fieldAddr 24 (.tmp 8) 2, none, false⟩,
   ⟨none, .store 22 (.tmp 103) (.tmp 102), none, false⟩])))))
 (.reg [⟨some 104, .binOp .add 3 (.tmp 75) (.const (.int .i64 1)) 3, none, false⟩,
   ⟨some 75, .move (.tmp 104), none, false⟩])))))))
 (.seq (.reg [⟨some 105, .load 24 (.tmp 8), none, false⟩,
   ⟨none, .store 24 (.tmp 6) (.tmp 105), none, false⟩,
   ⟨some 7, .assign (.const (.int .i64 0)), none, false⟩])
 (.ret))))))
def fr10 : FR := ⟨106, [.cell 6 24, .tmp 7], cc10⟩
theorem fnis10 : FnIs Tryz.prog 10 fr10 := ⟨Tryz.f10, _, [[0, 4, 5, 6, 8, 47, 48, 49], [0, 5, 6, 8, 73, 74, 75]], [], Tryz.func10, rfl, by kernel_rfl, by kernel_rfl, by kernel_rfl, by kernel_rfl⟩
/-- function 11 -/
def cc11 : CC :=
 .seq (.reg [⟨some 2, .box 24 (.tmp 0), none, false⟩,
   ⟨some 3, .box 24 (.tmp 1), none, false⟩,
   ⟨some 4, .assign (.const (.bool false)), none, false⟩])
 (.seq (.reg [⟨some 5, .fieldAddr 24 (.tmp 2) 0, none, false⟩,
   ⟨some 6, .load 4 (.tmp 5), none, false⟩,
   ⟨some 7, .fieldAddr 24 (.tmp 3) 0, none, false⟩,
   ⟨some 8, .load 4 (.tmp 7), none, false⟩,
   ⟨some 9, .binOp .eql 4 (.tmp 6) (.tmp 8) 4, none, false⟩,
   ⟨some 10, .move (.tmp 9), none, false⟩,
   ⟨some 11, .fieldAddr 24 (.tmp 2) 1, some (10, true), false⟩,
   ⟨some 12, .load 22 (.tmp 11), some (10, true), false⟩,
   ⟨some 13, .fieldAddr 24 (.tmp 3) 1, some (10, true), false⟩,
   ⟨some 14, .load 22 (.tmp 13), some (10, true), false⟩,
   ⟨some 15, .call { callee := (.value (.func 27)), args := #[(.tmp 12), (.tmp 14)], argTypes := #[22, 22] }, some (10, true), false⟩,
   ⟨some 16, .pick (.tmp 10) (.tmp 15) (.const (.bool false)), none, false⟩,
   ⟨some 17, .move (.tmp 16), none, false⟩,
   ⟨some 18, .fieldAddr 24 (.tmp 2) 2, some (17, true), false⟩,
   ⟨some 19, .load 22 (.tmp 18), some (17, true), false⟩,
   ⟨some 20, .fieldAddr 24 (.tmp 3) 2, some (17, true), false⟩,
   ⟨some 21, .load 22 (.tmp 20), some (17, true), false⟩,
   ⟨some 22, .call { callee := (.value (.func 27)), args := #[(.tmp 19), (.tmp 21)], argTypes := #[22, 22] }, some (17, true), false⟩,
   ⟨some 23, .pick (.tmp 17) (.tmp 22) (.const (.bool false)), none, false⟩,
   ⟨some 4, .assign (.tmp 23), none, false⟩])
 (.ret))
def fr11 : FR := ⟨24, [.tmp 4], cc11⟩
theorem fnis11 : FnIs Tryz.prog 11 fr11 := ⟨Tryz.f11, _, [], [], Tryz.func11, rfl, by kernel_rfl, by kernel_rfl, by kernel_rfl, by kernel_rfl⟩
/-- function 12 -/
def cc12 : CC :=
 .seq (.reg [⟨some 2, .box 24 (.tmp 0), none, false⟩,
   ⟨some 3, .box 24 (.tmp 1), none, false⟩,
   ⟨some 4, .assign (.const (.bool false)), none, false⟩])
 (.seq (.reg [⟨some 5, .fieldAddr 24 (.tmp 2) 0, none, false⟩,
   ⟨some 6, .load 4 (.tmp 5), none, false⟩,
   ⟨some 7, .fieldAddr 24 (.tmp 3) 0, none, false⟩,
   ⟨some 8, .load 4 (.tmp 7), none, false⟩,
   ⟨some 9, .binOp .eql 4 (.tmp 6) (.tmp 8) 4, none, false⟩,
   ⟨some 10, .move (.tmp 9), none, false⟩,
   ⟨some 11, .fieldAddr 24 (.tmp 2) 1, some (10, true), false⟩,
   ⟨some 12, .load 22 (.tmp 11), some (10, true), false⟩,
   ⟨some 13, .fieldAddr 24 (.tmp 3) 1, some (10, true), false⟩,
   ⟨some 14, .load 22 (.tmp 13), some (10, true), false⟩,
   ⟨some 15, .call { callee := (.value (.func 28)), args := #[(.tmp 12), (.tmp 14)], argTypes := #[22, 22] }, some (10, true), false⟩,
   ⟨some 16, .pick (.tmp 10) (.tmp 15) (.const (.bool false)), none, false⟩,
   ⟨some 17, .move (.tmp 16), none, false⟩,
   ⟨some 18, .fieldAddr 24 (.tmp 2) 2, some (17, true), false⟩,
   ⟨some 19, .load 22 (.tmp 18), some (17, true), false⟩,
   ⟨some 20, .fieldAddr 24 (.tmp 3) 2, some (17, true), false⟩,
   ⟨some 21, .load 22 (.tmp 20), some (17, true), false⟩,
   ⟨some 22, .call { callee := (.value (.func 28)), args := #[(.tmp 19), (.tmp 21)], argTypes := #[22, 22] }, some (17, true), false⟩,
   ⟨some 23, .pick (.tmp 17) (.tmp 22) (.const (.bool false)), none, false⟩,
   ⟨some 4, .assign (.tmp 23), none, false⟩])
 (.ret))
def fr12 : FR := ⟨24, [.tmp 4], cc12⟩
theorem fnis12 : FnIs Tryz.prog 12 fr12 := ⟨Tryz.f12, _, [], [], Tryz.func12, rfl, by kernel_rfl, by kernel_rfl, by kernel_rfl, by kernel_rfl⟩
/-- function 13 -/
def cc13 : CC :=
 .seq (.reg [⟨some 3, .box 39 (.tmp 1), none, false⟩,
   ⟨some 4, .alloc 24, none, false⟩])
 (.seq (.reg [⟨some 6, .move (.tmp 0), none, false⟩,
   ⟨some 7, .buildSlice 22 1 #[(0, (.tmp 6))], none, false⟩,
   ⟨some 8, .fieldAddr 39 (.tmp 3) 1, none, false⟩,
   ⟨some 9, .load 22 (.tmp 8), none, false⟩,
   ⟨some 10, .call { callee := (.builtin .append), args := #[(.tmp 7), (.tmp 9)], argTypes := #[22, 22] }, none, false⟩,
   ⟨some 5, .assign (.tmp 10), none, false⟩])
 (.seq (.block 0
 (.loop [3, 4, 5]
 (.seq (.seq (.reg [⟨some 11, .move (.tmp 5), none, false⟩,
   ⟨some 12, .call { callee := (.builtin .len), args := #[(.tmp 11)], argTypes := #[22] }, none, false⟩,
   ⟨some 13, .fieldAddr 39 (.tmp 3) 4, none, false⟩,
   ⟨some 14, .load 3 (.tmp 13), none, false⟩,
   ⟨some 15, .call { callee := (.builtin .min), args := #[(.tmp 14), (.const (.int .i64 1000))], argTypes := #[3, 3] }, none, false⟩,
   ⟨some 16, .binOp .lss 3 (.tmp 12) (.tmp 15) 3, none, false⟩])
 (.cond (.tmp 16)
 (.skip)
 (.exit 0)))
 (.block 1
 (.reg [⟨some 17, .move (.tmp 5), none, false⟩,
   ⟨some 18, .buildSlice 22 1 #[(0, (.const (.string { data := #[] })))], none, false⟩,
   ⟨some 19, .call { callee := (.builtin .append), args := #[(.tmp 17), (.tmp 18)], argTypes := #[22, 22] }, none, false⟩,
   ⟨some 5, .assign (.tmp 19), none, false⟩])))))
 (.seq (.reg [⟨some 20, .move (.tmp 5), none, false⟩,
   ⟨some 21, .fieldAddr 39 (.tmp 3) 4, none, false⟩,
   ⟨some 22, .load 3 (.tmp 21), none, false⟩,
   ⟨some 23, .move (.tmp 5), none, false⟩,
   ⟨some 24, .call { callee := (.builtin .len), args := #[(.tmp 23)], argTypes := #[22] }, none, false⟩,
   ⟨some 25, .call { callee := (.builtin .min), args := #[(.tmp 22), (.tmp 24)], argTypes := #[3, 3] }, none, false⟩,
   ⟨some 26, .call { callee := (.builtin .max), args := #[(.tmp 25), (.const (.int .i64 0))], argTypes := #[3, 3] }, none, false⟩,
   ⟨some 27, .slice 22 (.tmp 20) none (some (.tmp 26)) none, none, false⟩,
   ⟨some 28, .build 24 #[(0, (.const (.bool true))), (2, (.tmp 27))], none, false⟩,
   ⟨none, .store 24 (.tmp 4) (.tmp 28), none, false⟩])
 (.ret))))
def fr13 : FR := ⟨29, [.cell 4 24], cc13⟩
theorem fnis13 : FnIs Tryz.prog 13 fr13 := ⟨Tryz.f13, _, [[3, 4, 5]], [], Tryz.func13, rfl, by kernel_rfl, by kernel_rfl, by kernel_rfl, by kernel_rfl⟩
/-- function 14 -/
def cc14 : CC :=
 .seq (.reg [⟨some 3, .box 39 (.tmp 1), none, false⟩,
   ⟨some 4, .alloc 24, none, false⟩])
 (.seq (.reg [⟨some 8, .build 24 #[(0, (.const (.bool true)))], none, false⟩,
   ⟨some 5, .alloc 24, none, false⟩,
   ⟨none, .store 24 (.tmp 5) (.tmp 8), none, false⟩])
 (.seq (.seq (.reg [⟨some 6, .assign (.const (.int .i64 0)), none, false⟩])
 (.block 0
 (.loop [0, 3, 4, 5, 6]
 (.seq (.seq (.reg [⟨some 9, .move (.tmp 6), none, false⟩,
   ⟨some 10, .fieldAddr 39 (.tmp 3) 4, none, false⟩,
   ⟨some 11, .load 3 (.tmp 10), none, false⟩,
   ⟨some 12, .binOp .lss 3 (.tmp 9) (.tmp 11) 3, none, false⟩,
   ⟨some 13, .move (.tmp 12), none, false⟩,
   ⟨some 14, .move (.tmp 6), some (13, true), false⟩,
   ⟨some 15, .binOp .lss 3 (.tmp 14) (.const (.int .i64 1000)) 3, some (13, true), false⟩,
   ⟨some 16, .pick (.tmp 13) (.tmp 15) (.const (.bool false)), none, false⟩])
 (.cond (.tmp 16)
 (.skip)
 (.exit 0)))
 (.seq (.block 1
 (.seq (.reg [⟨some 7, .assign (.const (.string { data := #[] })), none, false⟩])
 (.seq (.seq (.reg [⟨some 19, .move (.tmp 6), none, false⟩,
   ⟨some 20, .binOp .eql 3 (.tmp 19) (.const (.int .i64 0)) 3, none, false⟩])
 (.cond (.tmp 20)
 (.reg [⟨some 21, .move (.tmp 0), none, false⟩,
   ⟨some 7, .assign (.tmp 21), none, false⟩])
 (.seq (.reg [⟨some 22, .move (.tmp 6), none, false⟩,
   ⟨some 23, .fieldAddr 39 (.tmp 3) 1, none, false⟩,
   ⟨some 24, .load 22 (.tmp 23), none, false⟩,
   ⟨some 25, .call { callee := (.builtin .len), args := #[(.tmp 24)], argTypes := #[22] }, none, false⟩,
   ⟨some 26, .binOp .leq 3 (.tmp 22) (.tmp 25) 3, none, false⟩])
 (.cond (.tmp 26)
 (.reg [⟨some 27, .fieldAddr 39 (.tmp 3) 1, none, false⟩,
   ⟨some 28, .load 22 (.tmp 27), none, false⟩,
   ⟨some 29, .move (.tmp 6), none, false⟩,
   ⟨some 30, .binOp .sub 3 (.tmp 29) (.const (.int .i64 1)) 3, none, false⟩,
   ⟨some 31, .indexAddr 22 (.tmp 28) (.tmp 30), none, false⟩,
   ⟨some 32, .load 9 (.tmp 31), none, false⟩,
   ⟨some 7, .assign (.tmp 32), none, false⟩])
 (.skip)))))
 (.reg [⟨some 33, .fieldAddr 24 (.tmp 5) 2, none, false⟩,
   ⟨some 34, .load 22 (.tmp 33), none, false⟩,
   ⟨some 35, .move (.tmp 7), none, false⟩,
   ⟨some 36, .buildSlice 22 1 #[(0, (.tmp 35))], none, false⟩,
   ⟨some 37, .call { callee := (.builtin .append), args := #[(.tmp 34), (.tmp 36)], argTypes := #[22, 22] }, none, false⟩,
   ⟨some 38, .fieldAddr 24 (.tmp 5) 2, none, false⟩,
   ⟨none, .store 22 (.tmp 38) (.tmp 37), none, false⟩]))))
 (.reg [⟨some 17, .move (.tmp 6), none, false⟩,
   ⟨some 18, .binOp .add 3 (.tmp 17) (.const (.int .i64 1)) 3, none, false⟩,
   ⟨some 6, .assign (.tmp 18), none, false⟩]))))))
 (.seq (.reg [⟨some 39, .load 24 (.tmp 5), none, false⟩,
   ⟨none, .store 24 (.tmp 4) (.tmp 39), none, false⟩])
 (.ret))))
def fr14 : FR := ⟨40, [.cell 4 24], cc14⟩
theorem fnis14 : FnIs Tryz.prog 14 fr14 := ⟨Tryz.f14, _, [[0, 3, 4, 5, 6]], [], Tryz.func14, rfl, by kernel_rfl, by kernel_rfl, by kernel_rfl, by kernel_rfl⟩
/-- function 15 -/
def cc15 : CC :=
 .seq (.reg [⟨some 2, .box 36 (.tmp 0), none, false⟩,
   ⟨some 4, .assign (.const (.slice none 0 0)), none, false⟩,
   ⟨some 5, .assign (.const (.bool false)), none, false⟩])
 (.seq (.seq (.reg [⟨some 9, .move (.tmp 1), none, false⟩,
   ⟨some 10, .binOp .lss 3 (.tmp 9) (.const (.int .i64 0)) 3, none, false⟩,
   ⟨some 11, .move (.tmp 10), none, false⟩,
   ⟨some 12, .move (.tmp 1), some (11, false), false⟩,
   ⟨some 13, .load 36 (.tmp 2), some (11, false), false⟩,
   ⟨some 14, .call { callee := (.builtin .len), args := #[(.tmp 13)], argTypes := #[36] }, some (11, false), false⟩,
   ⟨some 15, .binOp .geq 3 (.tmp 12) (.tmp 14) 3, some (11, false), false⟩,
   ⟨some 16, .pick (.tmp 11) (.const (.bool true)) (.tmp 15), none, false⟩])
 (.cond (.tmp 16)
 (.seq (.reg [⟨some 4, .assign (.const (.slice none 0 0)), none, false⟩,
   ⟨some 5, .assign (.const (.bool false)), none, false⟩])
 (.ret))
 (.skip)))
 (.seq (.reg [⟨some 17, .move (.tmp 1), none, false⟩,
   ⟨some 18, .binOp .add 3 (.tmp 17) (.const (.int .i64 1)) 3, none, false⟩,
   ⟨some 19, .buildSlice 42 1 #[(0, (.tmp 18))], none, false⟩,
   ⟨some 6, .assign (.tmp 19), none, false⟩])
 (.seq (.seq (.reg [⟨some 20, .load 36 (.tmp 2), none, false⟩,
   ⟨some 21, .move (.tmp 1), none, false⟩,
   ⟨some 22, .indexAddr 36 (.tmp 20) (.tmp 21), none, false⟩,
   ⟨some 23, .load 53 (.tmp 22), none, false⟩,
   ⟨some 7, .alloc 53, none, false⟩,
   ⟨none, .store 53 (.tmp 7) (.tmp 23), none, false⟩])
 (.seq (.reg [⟨some 24, .fieldAddr 53 (.tmp 7) 0, none, false⟩,
   ⟨some 25, .load 9 (.tmp 24), none, false⟩])
 (.block 0
 (.seq (.seq (.reg [⟨some 27, .binOp .eql 9 (.tmp 25) (.const (.string { data := #[106, 117, 109, 112] })) 9, none, false⟩,
   ⟨some 26, .assign (.tmp 27), none, false⟩])
 (.cond (.tmp 26)
 (.skip)
 (.reg [⟨some 28, .binOp .eql 9 (.tmp 25) (.const (.string { data := #[98, 114, 97, 110, 99, 104] })) 9, none, false⟩,
   ⟨some 26, .assign (.tmp 28), none, false⟩])))
 (.cond (.tmp 26)
 (.seq (.reg [⟨some 29, .load 36 (.tmp 2), none, false⟩,
   ⟨some 30, .call { callee := (.builtin .len), args := #[(.tmp 29)], argTypes := #[36] }, none, false⟩,
   ⟨some 8, .assign (.tmp 30), none, false⟩])
 (.seq (.seq (.reg [⟨some 31, .fieldAddr 53 (.tmp 7) 1, none, false⟩,
   ⟨some 32, .load 2 (.tmp 31), none, false⟩,
   ⟨some 33, .binOp .geq 2 (.tmp 32) (.const (.int .i64 0)) 2, none, false⟩,
   ⟨some 34, .move (.tmp 33), none, false⟩,
   ⟨some 35, .fieldAddr 53 (.tmp 7) 1, some (34, true), false⟩,
   ⟨some 36, .load 2 (.tmp 35), some (34, true), false⟩,
   ⟨some 37, .load 36 (.tmp 2), some (34, true), false⟩,
   ⟨some 38, .call { callee := (.builtin .len), args := #[(.tmp 37)], argTypes := #[36] }, some (34, true), false⟩,
   ⟨some 39, .binOp .lss 2 (.tmp 36) (.tmp 38) 2, some (34, true), false⟩,
   ⟨some 40, .pick (.tmp 34) (.tmp 39) (.const (.bool false)), none, false⟩])
 (.cond (.tmp 40)
 (.reg [⟨some 41, .fieldAddr 53 (.tmp 7) 1, none, false⟩,
   ⟨some 42, .load 2 (.tmp 41), none, false⟩,
   ⟨some 8, .assign (.tmp 42), none, false⟩])
 (.skip)))
 (.seq (.reg [⟨some 43, .move (.tmp 6), none, false⟩,
   ⟨some 44, .move (.tmp 8), none, false⟩,
   ⟨some 45, .buildSlice 42 1 #[(0, (.tmp 44))], none, false⟩,
   ⟨some 46, .call { callee := (.builtin .append), args := #[(.tmp 43), (.tmp 45)], argTypes := #[42, 42] }, none, false⟩,
   ⟨some 6, .assign (.tmp 46), none, false⟩])
 (.seq (.reg [⟨some 47, .fieldAddr 53 (.tmp 7) 0, none, false⟩,
   ⟨some 48, .load 9 (.tmp 47), none, false⟩,
   ⟨some 49, .binOp .eql 9 (.tmp 48) (.const (.string { data := #[106, 117, 109, 112] })) 9, none, false⟩])
 (.cond (.tmp 49)
 (.reg [⟨some 50, .move (.tmp 6), none, false⟩,
   ⟨some 51, .slice 42 (.tmp 50) (some (.const (.int .i64 1))) none none, none, false⟩,
   ⟨some 6, .assign (.tmp 51), none, false⟩])
 (.skip))))))
 (.seq (.seq (.reg [⟨some 53, .binOp .eql 9 (.tmp 25) (.const (.string { data := #[114, 101, 116, 117, 114, 110] })) 9, none, false⟩,
   ⟨some 52, .assign (.tmp 53), none, false⟩])
 (.cond (.tmp 52)
 (.skip)
 (.reg [⟨some 54, .binOp .eql 9 (.tmp 25) (.const (.string { data := #[116, 104, 114, 111, 119] })) 9, none, false⟩,
   ⟨some 52, .assign (.tmp 54), none, false⟩])))
 (.cond (.tmp 52)
 (.reg [⟨some 6, .assign (.const (.slice none 0 0)), none, false⟩])
 (.skip))))))))
 (.seq (.seq (.reg [⟨some 55, .move (.tmp 6), none, false⟩,
   ⟨some 56, .makeFunc (.func 30) #[] #[(.tmp 2)], none, false⟩,
   ⟨some 57, .call { callee := (.value (.func 29)), args := #[(.tmp 55), (.tmp 56)], argTypes := #[42, 58] }, none, false⟩])
 (.cond (.tmp 57)
 (.seq (.reg [⟨some 4, .assign (.const (.slice none 0 0)), none, false⟩,
   ⟨some 5, .assign (.const (.bool false)), none, false⟩])
 (.ret))
 (.skip)))
 (.seq (.reg [⟨some 58, .move (.tmp 6), none, false⟩,
   ⟨some 4, .assign (.tmp 58), none, false⟩,
   ⟨some 5, .assign (.const (.bool true)), none, false⟩])
 (.ret))))))
def fr15 : FR := ⟨59, [.tmp 4, .tmp 5], cc15⟩
theorem fnis15 : FnIs Tryz.prog 15 fr15 := ⟨Tryz.f15, _, [], [], Tryz.func15, rfl, by kernel_rfl, by kernel_rfl, by kernel_rfl, by kernel_rfl⟩
/-- function 16 -/
def cc16 : CC :=
 .seq (.reg [⟨some 4, .assign (.const (.slice none 0 0)), none, false⟩,
   ⟨some 5, .assign (.const (.bool false)), none, false⟩])
 (.seq (.seq (.reg [⟨some 9, .move (.tmp 1), none, false⟩,
   ⟨some 10, .binOp .lss 3 (.tmp 9) (.const (.int .i64 0)) 3, none, false⟩,
   ⟨some 11, .move (.tmp 10), none, false⟩,
   ⟨some 12, .move (.tmp 1), some (11, false), false⟩,
   ⟨some 13, .move (.tmp 0), some (11, false), false⟩,
   ⟨some 14, .call { callee := (.builtin .len), args := #[(.tmp 13)], argTypes := #[36] }, some (11, false), false⟩,
   ⟨some 15, .binOp .geq 3 (.tmp 12) (.tmp 14) 3, some (11, false), false⟩,
   ⟨some 16, .pick (.tmp 11) (.const (.bool true)) (.tmp 15), none, false⟩])
 (.cond (.tmp 16)
 (.seq (.reg [⟨some 4, .assign (.const (.slice none 0 0)), none, false⟩,
   ⟨some 5, .assign (.const (.bool false)), none, false⟩])
 (.ret))
 (.skip)))
 (.seq (.reg [⟨some 17, .buildSlice 42 0 #[], none, false⟩,
   ⟨some 6, .assign (.tmp 17), none, false⟩])
 (.seq (.reg [⟨some 18, .move (.tmp 0), none, false⟩,
   ⟨some 19, .move (.tmp 1), none, false⟩,
   ⟨some 20, .indexAddr 36 (.tmp 18) (.tmp 19), none, false⟩,
   ⟨some 21, .load 53 (.tmp 20), none, false⟩,
   ⟨some 7, .alloc 53, none, false⟩,
   ⟨none, .store 53 (.tmp 7) (.tmp 21), none, false⟩])
 (.seq (.reg [⟨some 22, .fieldAddr 53 (.tmp 7) 0, none, false⟩,
   ⟨some 23, .load 9 (.tmp 22), none, false⟩,
   ⟨some 24, .binOp .eql 9 (.tmp 23) (.const (.string { data := #[106, 117, 109, 112] })) 9, none, false⟩,
   ⟨some 25, .move (.tmp 24), none, false⟩,
   ⟨some 26, .fieldAddr 53 (.tmp 7) 0, some (25, false), false⟩,
   ⟨some 27, .load 9 (.tmp 26), some (25, false), false⟩,
   ⟨some 28, .binOp .eql 9 (.tmp 27) (.const (.string { data := #[114, 101, 116, 117, 114, 110] })) 9, some (25, false), false⟩,
   ⟨some 29, .pick (.tmp 25) (.const (.bool true)) (.tmp 28), none, false⟩,
   ⟨some 30, .move (.tmp 29), none, false⟩,
   ⟨some 31, .fieldAddr 53 (.tmp 7) 0, some (30, false), false⟩,
   ⟨some 32, .load 9 (.tmp 31), some (30, false), false⟩,
   ⟨some 33, .binOp .eql 9 (.tmp 32) (.const (.string { data := #[116, 104, 114, 111, 119] })) 9, some (30, false), false⟩,
   ⟨some 34, .pick (.tmp 30) (.const (.bool true)) (.tmp 33), none, false⟩,
   ⟨some 8, .assign (.tmp 34), none, false⟩])
 (.seq (.seq (.reg [⟨some 35, .move (.tmp 8), none, false⟩,
   ⟨some 36, .unOp .not 4 (.tmp 35), none, false⟩])
 (.cond (.tmp 36)
 (.seq (.seq (.reg [⟨some 37, .move (.tmp 1), none, false⟩,
   ⟨some 38, .binOp .add 3 (.tmp 37) (.const (.int .i64 1)) 3, none, false⟩,
   ⟨some 39, .move (.tmp 0), none, false⟩,
   ⟨some 40, .call { callee := (.builtin .len), args := #[(.tmp 39)], argTypes := #[36] }, none, false⟩,
   ⟨some 41, .binOp .geq 3 (.tmp 38) (.tmp 40) 3, none, false⟩])
 (.cond (.tmp 41)
 (.seq (.reg [⟨some 4, .assign (.const (.slice none 0 0)), none, false⟩,
   ⟨some 5, .assign (.const (.bool false)), none, false⟩])
 (.ret))
 (.skip)))
 (.reg [⟨some 42, .move (.tmp 6), none, false⟩,
   ⟨some 43, .move (.tmp 1), none, false⟩,
   ⟨some 44, .binOp .add 3 (.tmp 43) (.const (.int .i64 1)) 3, none, false⟩,
   ⟨some 45, .buildSlice 42 1 #[(0, (.tmp 44))], none, false⟩,
   ⟨some 46, .call { callee := (.builtin .append), args := #[(.tmp 42), (.tmp 45)], argTypes := #[42, 42] }, none, false⟩,
   ⟨some 6, .assign (.tmp 46), none, false⟩]))
 (.skip)))
 (.seq (.seq (.reg [⟨some 47, .fieldAddr 53 (.tmp 7) 0, none, false⟩,
   ⟨some 48, .load 9 (.tmp 47), none, false⟩,
   ⟨some 49, .binOp .eql 9 (.tmp 48) (.const (.string { data := #[106, 117, 109, 112] })) 9, none, false⟩,
   ⟨some 50, .move (.tmp 49), none, false⟩,
   ⟨some 51, .fieldAddr 53 (.tmp 7) 0, some (50, false), false⟩,
   ⟨some 52, .load 9 (.tmp 51), some (50, false), false⟩,
   ⟨some 53, .binOp .eql 9 (.tmp 52) (.const (.string { data := #[98, 114, 97, 110, 99, 104] })) 9, some (50, false), false⟩,
   ⟨some 54, .pick (.tmp 50) (.const (.bool true)) (.tmp 53), none, false⟩])
 (.cond (.tmp 54)
 (.seq (.seq (.reg [⟨some 55, .fieldAddr 53 (.tmp 7) 1, none, false⟩,
   ⟨some 56, .load 2 (.tmp 55), none, false⟩,
   ⟨some 57, .binOp .lss 2 (.tmp 56) (.const (.int .i64 0)) 2, none, false⟩,
   ⟨some 58, .move (.tmp 57), none, false⟩,
   ⟨some 59, .fieldAddr 53 (.tmp 7) 1, some (58, false), false⟩,
   ⟨some 60, .load 2 (.tmp 59), some (58, false), false⟩,
   ⟨some 61, .move (.tmp 0), some (58, false), false⟩,
   ⟨some 62, .call { callee := (.builtin .len), args := #[(.tmp 61)], argTypes := #[36] }, some (58, false), false⟩,
   ⟨some 63, .binOp .geq 2 (.tmp 60) (.tmp 62) 2, some (58, false), false⟩,
   ⟨some 64, .pick (.tmp 58) (.const (.bool true)) (.tmp 63), none, false⟩])
 (.cond (.tmp 64)
 (.seq (.reg [⟨some 4, .assign (.const (.slice none 0 0)), none, false⟩,
   ⟨some 5, .assign (.const (.bool false)), none, false⟩])
 (.ret))
 (.skip)))
 (.reg [⟨some 65, .move (.tmp 6), none, false⟩,
   ⟨some 66, .fieldAddr 53 (.tmp 7) 1, none, false⟩,
   ⟨some 67, .load 2 (.tmp 66), none, false⟩,
   ⟨some 68, .buildSlice 42 1 #[(0, (.tmp 67))], none, false⟩,
   ⟨some 69, .call { callee := (.builtin .append), args := #[(.tmp 65), (.tmp 68)], argTypes := #[42, 42] }, none, false⟩,
   ⟨some 6, .assign (.tmp 69), none, false⟩]))
 (.skip)))
 (.seq (.reg [⟨some 70, .move (.tmp 6), none, false⟩,
   ⟨some 4, .assign (.tmp 70), none, false⟩,
   ⟨some 5, .assign (.const (.bool true)), none, false⟩])
 (.ret))))))))
def fr16 : FR := ⟨71, [.tmp 4, .tmp 5], cc16⟩
theorem fnis16 : FnIs Tryz.prog 16 fr16 := ⟨Tryz.f16, _, [], [], Tryz.func16, rfl, by kernel_rfl, by kernel_rfl, by kernel_rfl, by kernel_rfl⟩
/-- function 17 -/
def cc17 : CC :=
 .seq (.reg [⟨some 2, .assign (.const (.pointer none)), none, false⟩,
   ⟨some 3, .assign (.const (.int .i64 0)), none, false⟩,
   ⟨some 4, .assign (.const (.int .i64 0)), none, false⟩])
 (.seq (.reg [⟨some 19, .call { callee := (.value (.func 31)), args := #[], argTypes := #[] }, none, false⟩,
   ⟨some 20, .makeMap 59 none, none, false⟩,
   ⟨some 21, .build 61 #[(0, (.tmp 19)), (1, (.tmp 20))], none, false⟩,
   ⟨some 22, .box 61 (.tmp 21), none, false⟩,
   ⟨some 5, .assign (.tmp 22), none, false⟩])
 (.seq (.reg [⟨some 23, .move (.tmp 5), none, false⟩,
   ⟨some 24, .nilCheck (.tmp 23), none, false⟩,
   ⟨some 25, .fieldAddr 61 (.tmp 24) 0, none, false⟩,
   ⟨some 26, .load 26 (.tmp 25), none, false⟩,
   ⟨some 27, .call { callee := (.builtin .len), args := #[(.tmp 26)], argTypes := #[26] }, none, false⟩,
   ⟨some 6, .assign (.tmp 27), none, false⟩])
 (.seq (.seq (.reg [⟨some 28, .move (.tmp 0), none, false⟩,
   ⟨some 29, .call { callee := (.builtin .len), args := #[(.tmp 28)], argTypes := #[26] }, none, false⟩,
   ⟨some 30, .move (.const (.int .i64 0)), none, false⟩])
 (.block 0
 (.loop [5, 6, 28, 29, 30]
 (.seq (.reg [⟨some 31, .binOp .lss 3 (.tmp 30) (.tmp 29) 3, none, false⟩])
 (.seq (.cond (.tmp 31)
 (.skip)
 (.exit 0))
 (.seq (.block 1
 (.seq (.reg [⟨some 32, .move (.tmp 30), none, false⟩,
   ⟨some 33, .indexAddr 26 (.tmp 28) (.tmp 30), none, false⟩,
   ⟨some 34, .load 65 (.tmp 33), none, false⟩,
   ⟨some 8, .alloc 65, none, false⟩,
   ⟨some 7, .assign (.tmp 32), none, false⟩,
   ⟨none, .store 65 (.tmp 8) (.tmp 34), none, false⟩])
 (.seq (.seq (.reg [⟨some 35, .load 65 (.tmp 8), none, false⟩,
   ⟨some 36, .call { callee := (.value (.func 32)), args := #[(.tmp 35)], argTypes := #[65] }, none, false⟩,
   ⟨some 9, .assign (.tmp 36), none, false⟩])
 (.seq (.reg [⟨some 37, .move (.tmp 9), none, false⟩,
   ⟨some 38, .binOp .neq 32 (.tmp 37) (.const (.int .i64 0)) 32, none, false⟩])
 (.cond (.tmp 38)
 (.seq (.reg [⟨some 39, .move (.tmp 7), none, false⟩,
   ⟨some 40, .move (.tmp 9), none, false⟩,
   ⟨some 2, .assign (.const (.pointer none)), none, false⟩,
   ⟨some 3, .assign (.tmp 39), none, false⟩,
   ⟨some 4, .assign (.tmp 40), none, false⟩])
 (.ret))
 (.skip))))
 (.reg [⟨some 41, .move (.tmp 5), none, false⟩,
   ⟨some 42, .move (.tmp 5), none, false⟩,
   ⟨some 43, .nilCheck (.tmp 42), none, false⟩,
   ⟨some 44, .fieldAddr 61 (.tmp 43) 0, none, false⟩,
   ⟨some 45, .load 26 (.tmp 44), none, false⟩,
   ⟨some 46, .load 65 (.tmp 8), none, false⟩,
   ⟨some 47, .call { callee := (.value (.func 33)), args := #[(.tmp 46)], argTypes := #[65] }, none, false⟩,
   ⟨some 45, .load 26 (.tmp 44), none, true⟩,
   ⟨some 48, .buildSlice 26 1 #[(0, (.tmp 47))], none, false⟩,
   ⟨some 49, .call { callee := (.builtin .append), args := #[(.tmp 45), (.tmp 48)], argTypes := #[26, 26] }, none, false⟩,
   ⟨some 50, .nilCheck (.tmp 41), none, false⟩,
   ⟨some 51, .fieldAddr 61 (.tmp 50) 0, none, false⟩,
   ⟨none, .store 26 (.tmp 51) (.tmp 49), none, false⟩]))))
 (.reg [⟨some 52, .binOp .add 3 (.tmp 30) (.const (.int .i64 1)) 3, none, false⟩,
   ⟨some 30, .move (.tmp 52), none, false⟩])))))))
 (.seq (.seq (.reg [⟨some 53, .move (.tmp 5), none, false⟩,
   ⟨some 54, .nilCheck (.tmp 53), none, false⟩,
   ⟨some 55, .fieldAddr 61 (.tmp 54) 0, none, false⟩,
   ⟨some 56, .load 26 (.tmp 55), none, false⟩,
   ⟨some 57, .call { callee := (.builtin .len), args := #[(.tmp 56)], argTypes := #[26] }, none, false⟩,
   ⟨some 58, .move (.const (.int .i64 0)), none, false⟩])
 (.block 2
 (.loop [5, 6, 56, 57, 58]
 (.seq (.reg [⟨some 59, .binOp .lss 3 (.tmp 58) (.tmp 57) 3, none, false⟩])
 (.seq (.cond (.tmp 59)
 (.skip)
 (.exit 2))
 (.seq (.block 3
 (.seq (.reg [⟨some 60, .move (.tmp 58), none, false⟩,
   ⟨some 61, .indexAddr 26 (.tmp 56) (.tmp 58), none, false⟩,
   ⟨some 62, .load 65 (.tmp 61), none, false⟩,
   ⟨some 11, .alloc 65, none, false⟩,
   ⟨some 10, .assign (.tmp 60), none, false⟩,
   ⟨none, .store 65 (.tmp 11) (.tmp 62), none, false⟩])
 (.seq (.seq (.reg [⟨some 63, .move (.tmp 5), none, false⟩,
   ⟨some 64, .fieldAddr 65 (.tmp 11) 0, none, false⟩,
   ⟨some 65, .load 9 (.tmp 64), none, false⟩,
   ⟨some 66, .call { callee := (.value (.func 24)), args := #[(.tmp 63), (.tmp 65)], argTypes := #[25, 9] }, none, false⟩])
 (.cond (.tmp 66)
 (.seq (.reg [⟨some 67, .move (.tmp 10), none, false⟩,
   ⟨some 68, .move (.tmp 6), none, false⟩,
   ⟨some 69, .binOp .sub 3 (.tmp 67) (.tmp 68) 3, none, false⟩,
   ⟨some 2, .assign (.const (.pointer none)), none, false⟩,
   ⟨some 3, .assign (.tmp 69), none, false⟩,
   ⟨some 4, .assign (.const (.int .i64 60)), none, false⟩])
 (.ret))
 (.skip)))
 (.reg [⟨some 70, .move (.tmp 5), none, false⟩,
   ⟨some 71, .nilCheck (.tmp 70), none, false⟩,
   ⟨some 72, .fieldAddr 61 (.tmp 71) 1, none, false⟩,
   ⟨some 73, .load 59 (.tmp 72), none, false⟩,
   ⟨some 74, .fieldAddr 65 (.tmp 11) 0, none, false⟩,
   ⟨some 75, .load 9 (.tmp 74), none, false⟩,
   ⟨some 76, .move (.tmp 10), none, false⟩,
   ⟨none, .mapUpdate 59 (.tmp 73) (.tmp 75) (.tmp 76), none, false⟩]))))
 (.reg [⟨some 77, .binOp .add 3 (.tmp 58) (.const (.int .i64 1)) 3, none, false⟩,
   ⟨some 58, .move (.tmp 77), none, false⟩])))))))
 (.seq (.seq (.reg [⟨some 78, .move (.tmp 5), none, false⟩,
   ⟨some 79, .nilCheck (.tmp 78), none, false⟩,
   ⟨some 80, .fieldAddr 61 (.tmp 79) 0, none, false⟩,
   ⟨some 81, .load 26 (.tmp 80), none, false⟩,
   ⟨some 82, .move (.tmp 6), none, false⟩,
   ⟨some 83, .slice 26 (.tmp 81) (some (.tmp 82)) none none, none, false⟩,
   ⟨some 84, .call { callee := (.builtin .len), args := #[(.tmp 83)], argTypes := #[26] }, none, false⟩,
   ⟨some 85, .move (.const (.int .i64 0)), none, false⟩])
 (.block 4
 (.loop [5, 6, 83, 84, 85]
 (.seq (.reg [⟨some 86, .binOp .lss 3 (.tmp 85) (.tmp 84) 3, none, false⟩])
 (.seq (.cond (.tmp 86)
 (.skip)
 (.exit 4))
 (.seq (.block 5
 (.seq (.reg [⟨some 87, .move (.tmp 85), none, false⟩,
   ⟨some 88, .indexAddr 26 (.tmp 83) (.tmp 85), none, false⟩,
   ⟨some 89, .load 65 (.tmp 88), none, false⟩,
   ⟨some 13, .alloc 65, none, false⟩,
   ⟨some 12, .assign (.tmp 87), none, false⟩,
   ⟨none, .store 65 (.tmp 13) (.tmp 89), none, false⟩])
 (.seq (.reg [⟨some 90, .move (.tmp 5), none, false⟩,
   ⟨some 91, .load 65 (.tmp 13), none, false⟩,
   ⟨some 92, .call { callee := (.value (.func 34)), args := #[(.tmp 90), (.tmp 91)], argTypes := #[25, 65] }, none, false⟩,
   ⟨some 14, .assign (.tmp 92), none, false⟩])
 (.seq (.reg [⟨some 93, .move (.tmp 14), none, false⟩,
   ⟨some 94, .binOp .neq 32 (.tmp 93) (.const (.int .i64 0)) 32, none, false⟩])
 (.cond (.tmp 94)
 (.seq (.reg [⟨some 95, .move (.tmp 12), none, false⟩,
   ⟨some 96, .move (.tmp 14), none, false⟩,
   ⟨some 2, .assign (.const (.pointer none)), none, false⟩,
   ⟨some 3, .assign (.tmp 95), none, false⟩,
   ⟨some 4, .assign (.tmp 96), none, false⟩])
 (.ret))
 (.skip))))))
 (.reg [⟨some 97, .binOp .add 3 (.tmp 85) (.const (.int .i64 1)) 3, none, false⟩,
   ⟨some 85, .move (.tmp 97), none, false⟩])))))))
 (.seq (.seq (.reg [⟨some 98, .move (.tmp 5), none, false⟩,
   ⟨some 99, .nilCheck (.tmp 98), none, false⟩,
   ⟨some 100, .fieldAddr 61 (.tmp 99) 0, none, false⟩,
   ⟨some 101, .load 26 (.tmp 100), none, false⟩,
   ⟨some 102, .move (.tmp 6), none, false⟩,
   ⟨some 103, .slice 26 (.tmp 101) (some (.tmp 102)) none none, none, false⟩,
   ⟨some 104, .move (.tmp 5), none, false⟩,
   ⟨some 105, .makeFunc (.func 36) #[(.tmp 104)] #[], none, false⟩,
   ⟨some 106, .call { callee := (.value (.func 35)), args := #[(.tmp 103), (.tmp 105)], argTypes := #[26, 69] }, none, false⟩,
   ⟨some 15, .assign (.tmp 106), none, false⟩])
 (.seq (.reg [⟨some 107, .move (.tmp 15), none, false⟩,
   ⟨some 108, .binOp .geq 3 (.tmp 107) (.const (.int .i64 0)) 3, none, false⟩])
 (.cond (.tmp 108)
 (.seq (.reg [⟨some 109, .move (.tmp 15), none, false⟩,
   ⟨some 2, .assign (.const (.pointer none)), none, false⟩,
   ⟨some 3, .assign (.tmp 109), none, false⟩,
   ⟨some 4, .assign (.const (.int .i64 63)), none, false⟩])
 (.ret))
 (.skip))))
 (.seq (.seq (.reg [⟨some 110, .move (.tmp 5), none, false⟩,
   ⟨some 111, .move (.tmp 6), none, false⟩,
   ⟨some 112, .call { callee := (.value (.func 37)), args := #[(.tmp 110), (.tmp 111)], argTypes := #[25, 3] }, none, false⟩,
   ⟨some 113, .call { callee := (.builtin .len), args := #[(.tmp 112)], argTypes := #[42] }, none, false⟩,
   ⟨some 114, .move (.const (.int .i64 0)), none, false⟩])
 (.block 6
 (.loop [5, 6, 112, 113, 114]
 (.seq (.reg [⟨some 115, .binOp .lss 3 (.tmp 114) (.tmp 113) 3, none, false⟩])
 (.seq (.cond (.tmp 115)
 (.skip)
 (.exit 6))
 (.seq (.block 7
 (.seq (.reg [⟨some 116, .indexAddr 42 (.tmp 112) (.tmp 114), none, false⟩,
   ⟨some 117, .load 3 (.tmp 116), none, false⟩,
   ⟨some 17, .assign (.tmp 117), none, false⟩])
 (.seq (.reg [⟨some 118, .move (.tmp 5), none, false⟩,
   ⟨some 119, .move (.tmp 5), none, false⟩,
   ⟨some 120, .nilCheck (.tmp 119), none, false⟩,
   ⟨some 121, .fieldAddr 61 (.tmp 120) 0, none, false⟩,
   ⟨some 122, .load 26 (.tmp 121), none, false⟩,
   ⟨some 123, .move (.tmp 17), none, false⟩,
   ⟨some 124, .indexAddr 26 (.tmp 122) (.tmp 123), none, false⟩,
   ⟨some 125, .load 65 (.tmp 124), none, false⟩,
   ⟨some 126, .call { callee := (.value (.func 38)), args := #[(.tmp 118), (.tmp 125)], argTypes := #[25, 65] }, none, false⟩,
   ⟨some 18, .assign (.tmp 126), none, false⟩])
 (.seq (.reg [⟨some 127, .move (.tmp 18), none, false⟩,
   ⟨some 128, .binOp .neq 32 (.tmp 127) (.const (.int .i64 0)) 32, none, false⟩])
 (.cond (.tmp 128)
 (.seq (.reg [⟨some 129, .move (.tmp 17), none, false⟩,
   ⟨some 130, .move (.tmp 6), none, false⟩,
   ⟨some 131, .binOp .sub 3 (.tmp 129) (.tmp 130) 3, none, false⟩,
   ⟨some 132, .move (.tmp 18), none, false⟩,
   ⟨some 2, .assign (.const (.pointer none)), none, false⟩,
   ⟨some 3, .assign (.tmp 131), none, false⟩,
   ⟨some 4, .assign (.tmp 132), none, false⟩])
 (.ret))
 (.skip))))))
 (.reg [⟨some 133, .binOp .add 3 (.tmp 114) (.const (.int .i64 1)) 3, none, false⟩,
   ⟨some 114, .move (.tmp 133), none, false⟩])))))))
 (.seq (.reg [⟨some 134, .move (.tmp 5), none, false⟩,
   ⟨some 2, .assign (.tmp 134), none, false⟩,
   ⟨some 3, .assign (.const (.int .i64 0)), none, false⟩,
   ⟨some 4, .assign (.const (.int .i64 0)), none, false⟩])
 (.ret)))))))))
def fr17 : FR := ⟨135, [.tmp 2, .tmp 3, .tmp 4], cc17⟩
theorem fnis17 : FnIs Tryz.prog 17 fr17 := ⟨Tryz.f17, _, [[5, 6, 28, 29, 30], [5, 6, 56, 57, 58], [5, 6, 83, 84, 85], [5, 6, 112, 113, 114]], [], Tryz.func17, rfl, by kernel_rfl, by kernel_rfl, by kernel_rfl, by kernel_rfl⟩
/-- function 18 -/
def cc18 : CC :=
 .seq (.reg [⟨some 0, .assign (.const (.slice none 0 0)), none, false⟩])
 (.seq (.reg [⟨some 2, .build 53 #[(0, (.const (.string { data := #[105, 110, 116] }))), (1, (.const (.int .i64 1)))], none, false⟩,
   ⟨some 3, .build 53 #[(0, (.const (.string { data := #[114, 101, 116, 117, 114, 110] })))], none, false⟩,
   ⟨some 4, .buildSlice 36 2 #[(0, (.tmp 2)), (1, (.tmp 3))], none, false⟩,
   ⟨some 1, .assign (.tmp 4), none, false⟩])
 (.seq (.reg [⟨some 5, .build 72 #[(0, (.const (.string { data := #[120] }))), (1, (.const (.string { data := #[105, 110, 116] })))], none, false⟩,
   ⟨some 6, .build 72 #[(0, (.const (.string { data := #[110, 101, 120, 116] }))), (1, (.const (.string { data := #[65] })))], none, false⟩,
   ⟨some 7, .buildSlice 62 2 #[(0, (.tmp 5)), (1, (.tmp 6))], none, false⟩,
   ⟨some 8, .buildSlice 22 2 #[(0, (.const (.string { data := #[105, 110, 116] }))), (1, (.const (.string { data := #[65] })))], none, false⟩,
   ⟨some 9, .move (.tmp 1), none, false⟩,
   ⟨some 10, .build 39 #[(0, (.const (.string { data := #[102] }))), (1, (.tmp 8)), (2, (.const (.string { data := #[105, 110, 116] }))), (4, (.const (.int .i64 3))), (5, (.tmp 9))], none, false⟩,
   ⟨some 11, .build 53 #[(0, (.const (.string { data := #[114, 101, 116, 117, 114, 110] })))], none, false⟩,
   ⟨some 12, .buildSlice 36 1 #[(0, (.tmp 11))], none, false⟩,
   ⟨some 13, .build 39 #[(0, (.const (.string { data := #[103] }))), (4, (.const (.int .i64 1))), (5, (.tmp 12))], none, false⟩,
   ⟨some 14, .buildSlice 63 2 #[(0, (.tmp 10)), (1, (.tmp 13))], none, false⟩,
   ⟨some 15, .build 65 #[(0, (.const (.string { data := #[65] }))), (1, (.const (.string { data := #[79, 98, 106, 101, 99, 116] }))), (6, (.tmp 7)), (7, (.tmp 14))], none, false⟩,
   ⟨some 16, .buildSlice 22 1 #[(0, (.const (.string { data := #[73] })))], none, false⟩,
   ⟨some 17, .build 72 #[(0, (.const (.string { data := #[108] }))), (1, (.const (.string { data := #[65, 91, 93] })))], none, false⟩,
   ⟨some 18, .buildSlice 62 1 #[(0, (.tmp 17))], none, false⟩,
   ⟨some 19, .build 65 #[(0, (.const (.string { data := #[66] }))), (1, (.const (.string { data := #[65] }))), (2, (.tmp 16)), (6, (.tmp 18))], none, false⟩,
   ⟨some 20, .build 65 #[(0, (.const (.string { data := #[73] }))), (1, (.const (.string { data := #[79, 98, 106, 101, 99, 116] }))), (3, (.const (.bool true))), (4, (.const (.bool true)))], none, false⟩,
   ⟨some 21, .build 65 #[(0, (.const (.string { data := #[68] }))), (1, (.const (.string { data := #[79, 98, 106, 101, 99, 116] }))), (4, (.const (.bool true)))], none, false⟩,
   ⟨some 22, .buildSlice 26 4 #[(0, (.tmp 15)), (1, (.tmp 19)), (2, (.tmp 20)), (3, (.tmp 21))], none, false⟩,
   ⟨some 0, .assign (.tmp 22), none, false⟩])
 (.ret)))
def fr18 : FR := ⟨23, [.tmp 0], cc18⟩
theorem fnis18 : FnIs Tryz.prog 18 fr18 := ⟨Tryz.f18, _, [], [], Tryz.func18, rfl, by kernel_rfl, by kernel_rfl, by kernel_rfl, by kernel_rfl⟩
/-- function 19 -/
def cc19 : CC :=
 .seq (.reg [⟨some 2, .assign (.const (.slice none 0 0)), none, false⟩,
   ⟨some 3, .assign (.const (.int .i64 0)), none, false⟩,
   ⟨some 4, .assign (.const (.int .i64 0)), none, false⟩])
 (.seq (.reg [⟨some 18, .call { callee := (.value (.func 39)), args := #[], argTypes := #[] }, none, false⟩,
   ⟨some 5, .assign (.tmp 18), none, false⟩])
 (.seq (.reg [⟨some 19, .move (.tmp 5), none, false⟩,
   ⟨some 20, .call { callee := (.builtin .len), args := #[(.tmp 19)], argTypes := #[26] }, none, false⟩,
   ⟨some 6, .assign (.tmp 20), none, false⟩])
 (.seq (.seq (.reg [⟨some 7, .assign (.const (.int .i64 0)), none, false⟩])
 (.block 0
 (.loop [0, 5, 6, 7]
 (.seq (.seq (.reg [⟨some 21, .move (.tmp 7), none, false⟩,
   ⟨some 22, .move (.tmp 0), none, false⟩,
   ⟨some 23, .call { callee := (.builtin .len), args := #[(.tmp 22)], argTypes := #[26] }, none, false⟩,
   ⟨some 24, .binOp .lss 3 (.tmp 21) (.tmp 23) 3, none, false⟩])
 (.cond (.tmp 24)
 (.skip)
 (.exit 0)))
 (.seq (.block 1
 (.seq (.seq (.reg [⟨some 27, .move (.tmp 0), none, false⟩,
   ⟨some 28, .move (.tmp 7), none, false⟩,
   ⟨some 29, .indexAddr 26 (.tmp 27) (.tmp 28), none, false⟩,
   ⟨some 30, .load 65 (.tmp 29), none, false⟩,
   ⟨some 31, .call { callee := (.value (.func 40)), args := #[(.tmp 30)], argTypes := #[65] }, none, false⟩,
   ⟨some 8, .assign (.tmp 31), none, false⟩])
 (.seq (.reg [⟨some 32, .move (.tmp 8), none, false⟩,
   ⟨some 33, .binOp .neq 32 (.tmp 32) (.const (.int .i64 0)) 32, none, false⟩])
 (.cond (.tmp 33)
 (.seq (.reg [⟨some 34, .move (.tmp 7), none, false⟩,
   ⟨some 35, .move (.tmp 8), none, false⟩,
   ⟨some 2, .assign (.const (.slice none 0 0)), none, false⟩,
   ⟨some 3, .assign (.tmp 34), none, false⟩,
   ⟨some 4, .assign (.tmp 35), none, false⟩])
 (.ret))
 (.skip))))
 (.reg [⟨some 36, .move (.tmp 5), none, false⟩,
   ⟨some 37, .move (.tmp 0), none, false⟩,
   ⟨some 38, .move (.tmp 7), none, false⟩,
   ⟨some 39, .indexAddr 26 (.tmp 37) (.tmp 38), none, false⟩,
   ⟨some 40, .load 65 (.tmp 39), none, false⟩,
   ⟨some 41, .buildSlice 26 1 #[(0, (.tmp 40))], none, false⟩,
   ⟨some 42, .call { callee := (.builtin .append), args := #[(.tmp 36), (.tmp 41)], argTypes := #[26, 26] }, none, false⟩,
   ⟨some 5, .assign (.tmp 42), none, false⟩])))
 (.reg [⟨some 25, .move (.tmp 7), none, false⟩,
   ⟨some 26, .binOp .add 3 (.tmp 25) (.const (.int .i64 1)) 3, none, false⟩,
   ⟨some 7, .assign (.tmp 26), none, false⟩]))))))
 (.seq (.seq (.reg [⟨some 9, .assign (.const (.int .i64 0)), none, false⟩])
 (.block 2
 (.loop [0, 5, 6, 9]
 (.seq (.seq (.reg [⟨some 43, .move (.tmp 9), none, false⟩,
   ⟨some 44, .move (.tmp 0), none, false⟩,
   ⟨some 45, .call { callee := (.builtin .len), args := #[(.tmp 44)], argTypes := #[26] }, none, false⟩,
   ⟨some 46, .binOp .lss 3 (.tmp 43) (.tmp 45) 3, none, false⟩])
 (.cond (.tmp 46)
 (.skip)
 (.exit 2)))
 (.seq (.block 3
 (.seq (.reg [⟨some 49, .move (.tmp 5), none, false⟩,
   ⟨some 50, .move (.tmp 0), none, false⟩,
   ⟨some 51, .move (.tmp 9), none, false⟩,
   ⟨some 52, .indexAddr 26 (.tmp 50) (.tmp 51), none, false⟩,
   ⟨some 53, .fieldAddr 65 (.tmp 52) 0, none, false⟩,
   ⟨some 54, .load 9 (.tmp 53), none, false⟩,
   ⟨some 55, .call { callee := (.value (.func 41)), args := #[(.tmp 49), (.tmp 54)], argTypes := #[26, 9] }, none, false⟩,
   ⟨some 56, .move (.tmp 6), none, false⟩,
   ⟨some 57, .move (.tmp 9), none, false⟩,
   ⟨some 58, .binOp .add 3 (.tmp 56) (.tmp 57) 3, none, false⟩,
   ⟨some 59, .binOp .neq 3 (.tmp 55) (.tmp 58) 3, none, false⟩])
 (.cond (.tmp 59)
 (.seq (.reg [⟨some 60, .move (.tmp 9), none, false⟩,
   ⟨some 2, .assign (.const (.slice none 0 0)), none, false⟩,
   ⟨some 3, .assign (.tmp 60), none, false⟩,
   ⟨some 4, .assign (.const (.int .i64 60)), none, false⟩])
 (.ret))
 (.skip))))
 (.reg [⟨some 47, .move (.tmp 9), none, false⟩,
   ⟨some 48, .binOp .add 3 (.tmp 47) (.const (.int .i64 1)) 3, none, false⟩,
   ⟨some 9, .assign (.tmp 48), none, false⟩]))))))
 (.seq (.seq (.reg [⟨some 10, .assign (.const (.int .i64 0)), none, false⟩])
 (.block 4
 (.loop [0, 5, 6, 10]
 (.seq (.seq (.reg [⟨some 61, .move (.tmp 10), none, false⟩,
   ⟨some 62, .move (.tmp 0), none, false⟩,
   ⟨some 63, .call { callee := (.builtin .len), args := #[(.tmp 62)], argTypes := #[26] }, none, false⟩,
   ⟨some 64, .binOp .lss 3 (.tmp 61) (.tmp 63) 3, none, false⟩])
 (.cond (.tmp 64)
 (.skip)
 (.exit 4)))
 (.seq (.block 5
 (.seq (.reg [⟨some 67, .move (.tmp 5), none, false⟩,
   ⟨some 68, .move (.tmp 0), none, false⟩,
   ⟨some 69, .move (.tmp 10), none, false⟩,
   ⟨some 70, .indexAddr 26 (.tmp 68) (.tmp 69), none, false⟩,
   ⟨some 71, .load 65 (.tmp 70), none, false⟩,
   ⟨some 72, .call { callee := (.value (.func 42)), args := #[(.tmp 67), (.tmp 71)], argTypes := #[26, 65] }, none, false⟩,
   ⟨some 11, .assign (.tmp 72), none, false⟩])
 (.seq (.reg [⟨some 73, .move (.tmp 11), none, false⟩,
   ⟨some 74, .binOp .neq 32 (.tmp 73) (.const (.int .i64 0)) 32, none, false⟩])
 (.cond (.tmp 74)
 (.seq (.reg [⟨some 75, .move (.tmp 10), none, false⟩,
   ⟨some 76, .move (.tmp 11), none, false⟩,
   ⟨some 2, .assign (.const (.slice none 0 0)), none, false⟩,
   ⟨some 3, .assign (.tmp 75), none, false⟩,
   ⟨some 4, .assign (.tmp 76), none, false⟩])
 (.ret))
 (.skip)))))
 (.reg [⟨some 65, .move (.tmp 10), none, false⟩,
   ⟨some 66, .binOp .add 3 (.tmp 65) (.const (.int .i64 1)) 3, none, false⟩,
   ⟨some 10, .assign (.tmp 66), none, false⟩]))))))
 (.seq (.reg [⟨some 77, .move (.tmp 5), none, false⟩,
   ⟨some 78, .call { callee := (.value (.func 43)), args := #[(.tmp 77)], argTypes := #[26] }, none, false⟩,
   ⟨some 12, .assign (.tmp 78), none, false⟩])
 (.seq (.seq (.reg [⟨some 13, .assign (.const (.int .i64 0)), none, false⟩])
 (.block 6
 (.loop [0, 5, 6, 12, 13]
 (.seq (.seq (.reg [⟨some 79, .move (.tmp 13), none, false⟩,
   ⟨some 80, .move (.tmp 0), none, false⟩,
   ⟨some 81, .call { callee := (.builtin .len), args := #[(.tmp 80)], argTypes := #[26] }, none, false⟩,
   ⟨some 82, .binOp .lss 3 (.tmp 79) (.tmp 81) 3, none, false⟩])
 (.cond (.tmp 82)
 (.skip)
 (.exit 6)))
 (.seq (.block 7
 (.seq (.reg [⟨some 85, .move (.tmp 12), none, false⟩,
   ⟨some 86, .move (.tmp 6), none, false⟩,
   ⟨some 87, .move (.tmp 13), none, false⟩,
   ⟨some 88, .binOp .add 3 (.tmp 86) (.tmp 87) 3, none, false⟩,
   ⟨some 89, .indexAddr 75 (.tmp 85) (.tmp 88), none, false⟩,
   ⟨some 90, .load 77 (.tmp 89), none, false⟩,
   ⟨some 91, .move (.tmp 6), none, false⟩,
   ⟨some 92, .move (.tmp 13), none, false⟩,
   ⟨some 93, .binOp .add 3 (.tmp 91) (.tmp 92) 3, none, false⟩,
   ⟨some 94, .indexAddr 77 (.tmp 90) (.tmp 93), none, false⟩,
   ⟨some 95, .load 4 (.tmp 94), none, false⟩])
 (.cond (.tmp 95)
 (.seq (.reg [⟨some 96, .move (.tmp 13), none, false⟩,
   ⟨some 2, .assign (.const (.slice none 0 0)), none, false⟩,
   ⟨some 3, .assign (.tmp 96), none, false⟩,
   ⟨some 4, .assign (.const (.int .i64 63)), none, false⟩])
 (.ret))
 (.skip))))
 (.reg [⟨some 83, .move (.tmp 13), none, false⟩,
   ⟨some 84, .binOp .add 3 (.tmp 83) (.const (.int .i64 1)) 3, none, false⟩,
   ⟨some 13, .assign (.tmp 84), none, false⟩]))))))
 (.seq (.reg [⟨some 97, .buildSlice 42 0 #[], none, false⟩,
   ⟨some 14, .assign (.tmp 97), none, false⟩])
 (.seq (.seq (.reg [⟨some 15, .assign (.const (.int .i64 0)), none, false⟩])
 (.block 8
 (.loop [0, 5, 6, 14, 15]
 (.seq (.seq (.reg [⟨some 98, .move (.tmp 15), none, false⟩,
   ⟨some 99, .move (.tmp 0), none, false⟩,
   ⟨some 100, .call { callee := (.builtin .len), args := #[(.tmp 99)], argTypes := #[26] }, none, false⟩,
   ⟨some 101, .binOp .lss 3 (.tmp 98) (.tmp 100) 3, none, false⟩])
 (.cond (.tmp 101)
 (.skip)
 (.exit 8)))
 (.seq (.block 9
 (.reg [⟨some 104, .move (.tmp 5), none, false⟩,
   ⟨some 105, .move (.tmp 14), none, false⟩,
   ⟨some 106, .move (.tmp 6), none, false⟩,
   ⟨some 107, .move (.tmp 6), none, false⟩,
   ⟨some 108, .move (.tmp 15), none, false⟩,
   ⟨some 109, .binOp .add 3 (.tmp 107) (.tmp 108) 3, none, false⟩,
   ⟨some 110, .call { callee := (.value (.func 44)), args := #[(.tmp 104), (.tmp 105), (.tmp 106), (.tmp 109)], argTypes := #[26, 42, 3, 3] }, none, false⟩,
   ⟨some 14, .assign (.tmp 110), none, false⟩]))
 (.reg [⟨some 102, .move (.tmp 15), none, false⟩,
   ⟨some 103, .binOp .add 3 (.tmp 102) (.const (.int .i64 1)) 3, none, false⟩,
   ⟨some 15, .assign (.tmp 103), none, false⟩]))))))
 (.seq (.seq (.reg [⟨some 16, .assign (.const (.int .i64 0)), none, false⟩])
 (.block 10
 (.loop [5, 6, 14, 16]
 (.seq (.seq (.reg [⟨some 111, .move (.tmp 16), none, false⟩,
   ⟨some 112, .move (.tmp 14), none, false⟩,
   ⟨some 113, .call { callee := (.builtin .len), args := #[(.tmp 112)], argTypes := #[42] }, none, false⟩,
   ⟨some 114, .binOp .lss 3 (.tmp 111) (.tmp 113) 3, none, false⟩])
 (.cond (.tmp 114)
 (.skip)
 (.exit 10)))
 (.seq (.block 11
 (.seq (.reg [⟨some 117, .move (.tmp 5), none, false⟩,
   ⟨some 118, .move (.tmp 14), none, false⟩,
   ⟨some 119, .move (.tmp 16), none, false⟩,
   ⟨some 120, .indexAddr 42 (.tmp 118) (.tmp 119), none, false⟩,
   ⟨some 121, .load 3 (.tmp 120), none, false⟩,
   ⟨some 122, .call { callee := (.value (.func 45)), args := #[(.tmp 117), (.tmp 121)], argTypes := #[26, 3] }, none, false⟩,
   ⟨some 17, .assign (.tmp 122), none, false⟩])
 (.seq (.reg [⟨some 123, .move (.tmp 17), none, false⟩,
   ⟨some 124, .binOp .neq 32 (.tmp 123) (.const (.int .i64 0)) 32, none, false⟩])
 (.cond (.tmp 124)
 (.seq (.reg [⟨some 125, .move (.tmp 14), none, false⟩,
   ⟨some 126, .move (.tmp 16), none, false⟩,
   ⟨some 127, .indexAddr 42 (.tmp 125) (.tmp 126), none, false⟩,
   ⟨some 128, .load 3 (.tmp 127), none, false⟩,
   ⟨some 129, .move (.tmp 6), none, false⟩,
   ⟨some 130, .binOp .sub 3 (.tmp 128) (.tmp 129) 3, none, false⟩,
   ⟨some 131, .move (.tmp 17), none, false⟩,
   ⟨some 2, .assign (.const (.slice none 0 0)), none, false⟩,
   ⟨some 3, .assign (.tmp 130), none, false⟩,
   ⟨some 4, .assign (.tmp 131), none, false⟩])
 (.ret))
 (.skip)))))
 (.reg [⟨some 115, .move (.tmp 16), none, false⟩,
   ⟨some 116, .binOp .add 3 (.tmp 115) (.const (.int .i64 1)) 3, none, false⟩,
   ⟨some 16, .assign (.tmp 116), none, false⟩]))))))
 (.seq (.reg [⟨some 132, .move (.tmp 5), none, false⟩,
   ⟨some 2, .assign (.tmp 132), none, false⟩,
   ⟨some 3, .assign (.const (.int .i64 0)), none, false⟩,
   ⟨some 4, .assign (.const (.int .i64 0)), none, false⟩])
 (.ret))))))))))))
def fr19 : FR := ⟨133, [.tmp 2, .tmp 3, .tmp 4], cc19⟩
theorem fnis19 : FnIs Tryz.prog 19 fr19 := ⟨Tryz.f19, _, [[0, 5, 6, 7], [0, 5, 6, 9], [0, 5, 6, 10], [0, 5, 6, 12, 13], [0, 5, 6, 14, 15], [5, 6, 14, 16]], [], Tryz.func19, rfl, by kernel_rfl, by kernel_rfl, by kernel_rfl, by kernel_rfl⟩
/-- function 20 -/
def cc20 : CC :=
 .seq (.reg [⟨some 5, .box 39 (.tmp 1), none, false⟩,
   ⟨some 6, .box 53 (.tmp 2), none, false⟩,
   ⟨some 7, .box 24 (.tmp 3), none, false⟩,
   ⟨some 8, .alloc 24, none, false⟩,
   ⟨some 9, .assign (.const (.int .i64 0)), none, false⟩])
 (.seq (.reg [⟨some 13, .move (.tmp 0), none, false⟩,
   ⟨some 14, .load 39 (.tmp 5), none, false⟩,
   ⟨some 15, .load 53 (.tmp 6), none, false⟩,
   ⟨some 16, .fieldAddr 24 (.tmp 7) 1, none, false⟩,
   ⟨some 17, .load 22 (.tmp 16), none, false⟩,
   ⟨some 19, .fieldAddr 24 (.tmp 7) 2, none, false⟩,
   ⟨some 20, .load 22 (.tmp 19), none, false⟩,
   ⟨some 18, .call { callee := (.value (.func 46)), args := #[(.tmp 17)], argTypes := #[22] }, none, false⟩,
   ⟨some 14, .load 39 (.tmp 5), none, true⟩,
   ⟨some 15, .load 53 (.tmp 6), none, true⟩,
   ⟨some 20, .load 22 (.tmp 19), none, true⟩,
   ⟨some 21, .call { callee := (.value (.func 46)), args := #[(.tmp 20)], argTypes := #[22] }, none, false⟩,
   ⟨some 14, .load 39 (.tmp 5), none, true⟩,
   ⟨some 15, .load 53 (.tmp 6), none, true⟩,
   ⟨some 22, .build 24 #[(0, (.const (.bool true))), (1, (.tmp 18)), (2, (.tmp 21))], none, false⟩,
   ⟨some 23, .build 83 #[(0, (.tmp 13)), (1, (.tmp 14)), (2, (.tmp 15)), (3, (.tmp 22))], none, false⟩,
   ⟨some 24, .box 83 (.tmp 23), none, false⟩,
   ⟨some 10, .assign (.tmp 24), none, false⟩])
 (.seq (.reg [⟨some 27, .fieldAddr 53 (.tmp 6) 0, none, false⟩,
   ⟨some 28, .load 9 (.tmp 27), none, false⟩,
   ⟨some 26, .call { callee := (.value (.func 47)), args := #[], argTypes := #[] }, none, false⟩,
   ⟨some 28, .load 9 (.tmp 27), none, true⟩,
   ⟨some 29, .lookup 86 (.tmp 26) (.tmp 28) true, none, false⟩,
   ⟨some 25, .move (.tmp 29), none, false⟩,
   ⟨some 30, .extract (.tmp 25) 0, none, false⟩,
   ⟨some 31, .extract (.tmp 25) 1, none, false⟩,
   ⟨some 11, .assign (.tmp 30), none, false⟩,
   ⟨some 12, .assign (.tmp 31), none, false⟩])
 (.seq (.seq (.reg [⟨some 32, .move (.tmp 12), none, false⟩,
   ⟨some 33, .unOp .not 4 (.tmp 32), none, false⟩])
 (.cond (.tmp 33)
 (.seq (.reg [⟨some 34, .build 24 #[], none, false⟩,
   ⟨none, .store 24 (.tmp 8) (.tmp 34), none, false⟩,
   ⟨some 9, .assign (.const (.int .i64 76)), none, false⟩])
 (.ret))
 (.skip)))
 (.seq (.reg [⟨some 35, .move (.tmp 11), none, false⟩,
   ⟨some 36, .move (.tmp 10), none, false⟩,
   ⟨some 37, .call { callee := (.value (.tmp 35)), args := #[(.tmp 36)], argTypes := #[80] }, none, false⟩])
 (.seq (.reg [⟨some 38, .move (.tmp 10), none, false⟩,
   ⟨some 39, .move (.tmp 10), none, false⟩,
   ⟨some 40, .nilCheck (.tmp 39), none, false⟩,
   ⟨some 41, .fieldAddr 83 (.tmp 40) 3, none, false⟩,
   ⟨some 42, .fieldAddr 24 (.tmp 41) 1, none, false⟩,
   ⟨some 43, .load 22 (.tmp 42), none, false⟩,
   ⟨some 44, .call { callee := (.builtin .len), args := #[(.tmp 43)], argTypes := #[22] }, none, false⟩,
   ⟨some 45, .binOp .leq 3 (.tmp 44) (.const (.int .i64 24)) 3, none, false⟩,
   ⟨some 46, .call { callee := (.value (.func 48)), args := #[(.tmp 38), (.tmp 45), (.const (.int .i64 72))], argTypes := #[80, 4, 32] }, none, false⟩])
 (.seq (.seq (.reg [⟨some 47, .move (.tmp 10), none, false⟩,
   ⟨some 48, .nilCheck (.tmp 47), none, false⟩,
   ⟨some 49, .fieldAddr 83 (.tmp 48) 4, none, false⟩,
   ⟨some 50, .load 32 (.tmp 49), none, false⟩,
   ⟨some 51, .binOp .neq 32 (.tmp 50) (.const (.int .i64 0)) 32, none, false⟩])
 (.cond (.tmp 51)
 (.seq (.reg [⟨some 52, .build 24 #[], none, false⟩,
   ⟨some 53, .move (.tmp 10), none, false⟩,
   ⟨some 54, .nilCheck (.tmp 53), none, false⟩,
   ⟨some 55, .fieldAddr 83 (.tmp 54) 4, none, false⟩,
   ⟨some 56, .load 32 (.tmp 55), none, false⟩,
   ⟨none, .store 24 (.tmp 8) (.tmp 52), none, false⟩,
   ⟨some 56, .load 32 (.tmp 55), none, true⟩,
   ⟨some 9, .assign (.tmp 56), none, false⟩])
 (.ret))
 (.skip)))
 (.seq (.reg [⟨some 57, .move (.tmp 10), none, false⟩,
   ⟨some 58, .nilCheck (.tmp 57), none, false⟩,
   ⟨some 59, .fieldAddr 83 (.tmp 58) 3, none, false⟩,
   ⟨some 60, .load 24 (.tmp 59), none, false⟩,
   ⟨none, .store 24 (.tmp 8) (.tmp 60), none, false⟩,
   ⟨some 9, .assign (.const (.int .i64 0)), none, false⟩])
 (.ret))))))))
def fr20 : FR := ⟨61, [.cell 8 24, .tmp 9], cc20⟩
theorem fnis20 : FnIs Tryz.prog 20 fr20 := ⟨Tryz.f20, _, [], [], Tryz.func20, rfl, by kernel_rfl, by kernel_rfl, by kernel_rfl, by kernel_rfl⟩
/-- function 21 -/
def cc21 : CC :=
 .seq (.reg [⟨some 4, .assign (.const (.string { data := #[] })), none, false⟩])
 (.seq (.seq (.reg [⟨some 7, .move (.tmp 0), none, false⟩,
   ⟨some 8, .binOp .eql 9 (.tmp 7) (.const (.string { data := #[] })) 9, none, false⟩,
   ⟨some 9, .move (.tmp 8), none, false⟩,
   ⟨some 10, .move (.tmp 1), some (9, false), false⟩,
   ⟨some 11, .binOp .eql 9 (.tmp 10) (.const (.string { data := #[] })) 9, some (9, false), false⟩,
   ⟨some 12, .pick (.tmp 9) (.const (.bool true)) (.tmp 11), none, false⟩])
 (.cond (.tmp 12)
 (.seq (.reg [⟨some 13, .move (.tmp 0), none, false⟩,
   ⟨some 4, .assign (.tmp 13), none, false⟩])
 (.ret))
 (.skip)))
 (.seq (.seq (.reg [⟨some 14, .move (.tmp 1), none, false⟩,
   ⟨some 15, .call { callee := (.builtin .len), args := #[(.tmp 14)], argTypes := #[9] }, none, false⟩,
   ⟨some 16, .binOp .eql 3 (.tmp 15) (.const (.int .i64 1)) 3, none, false⟩,
   ⟨some 17, .move (.tmp 16), none, false⟩,
   ⟨some 18, .move (.tmp 1), some (17, true), false⟩,
   ⟨some 19, .index 9 (.tmp 18) (.const (.int .i64 0)), some (17, true), false⟩,
   ⟨some 20, .binOp .lss 5 (.tmp 19) (.const (.int .u8 128)) 5, some (17, true), false⟩,
   ⟨some 21, .pick (.tmp 17) (.tmp 20) (.const (.bool false)), none, false⟩])
 (.cond (.tmp 21)
 (.seq (.reg [⟨some 22, .move (.tmp 0), none, false⟩,
   ⟨some 23, .move (.tmp 1), none, false⟩,
   ⟨some 24, .index 9 (.tmp 23) (.const (.int .i64 0)), none, false⟩,
   ⟨some 25, .call { callee := (.value (.func 49)), args := #[(.tmp 22), (.tmp 24)], argTypes := #[9, 5] }, none, false⟩,
   ⟨some 4, .assign (.tmp 25), none, false⟩])
 (.ret))
 (.skip)))
 (.seq (.seq (.reg [⟨some 27, .move (.tmp 1), none, false⟩,
   ⟨some 28, .call { callee := (.value (.func 50)), args := #[(.tmp 27)], argTypes := #[9] }, none, false⟩,
   ⟨some 26, .move (.tmp 28), none, false⟩,
   ⟨some 29, .extract (.tmp 26) 0, none, false⟩,
   ⟨some 30, .extract (.tmp 26) 1, none, false⟩,
   ⟨some 5, .alloc 91, none, false⟩,
   ⟨none, .store 91 (.tmp 5) (.tmp 29), none, false⟩,
   ⟨some 6, .assign (.tmp 30), none, false⟩])
 (.seq (.reg [⟨some 31, .move (.tmp 6), none, false⟩])
 (.cond (.tmp 31)
 (.seq (.reg [⟨some 32, .move (.tmp 0), none, false⟩,
   ⟨some 33, .call { callee := (.value (.func 51)), args := #[(.tmp 32), (.tmp 5)], argTypes := #[9, 95] }, none, false⟩,
   ⟨some 4, .assign (.tmp 33), none, false⟩])
 (.ret))
 (.skip))))
 (.seq (.reg [⟨some 34, .move (.tmp 0), none, false⟩,
   ⟨some 35, .move (.tmp 1), none, false⟩,
   ⟨some 36, .call { callee := (.value (.func 52)), args := #[(.tmp 34), (.tmp 35)], argTypes := #[9, 9] }, none, false⟩,
   ⟨some 4, .assign (.tmp 36), none, false⟩])
 (.ret)))))
def fr21 : FR := ⟨37, [.tmp 4], cc21⟩
theorem fnis21 : FnIs Tryz.prog 21 fr21 := ⟨Tryz.f21, _, [], [], Tryz.func21, rfl, by kernel_rfl, by kernel_rfl, by kernel_rfl, by kernel_rfl⟩
/-- function 22 -/
def cc22 : CC :=
 .seq (.reg [⟨some 2, .assign (.const (.bool false)), none, false⟩])
 (.seq (.reg [⟨some 6, .move (.tmp 0), none, false⟩,
   ⟨some 7, .call { callee := (.value (.func 53)), args := #[(.tmp 6)], argTypes := #[9] }, none, false⟩,
   ⟨some 5, .move (.tmp 7), none, false⟩,
   ⟨some 8, .extract (.tmp 5) 0, none, false⟩,
   ⟨some 9, .extract (.tmp 5) 1, none, false⟩,
   ⟨some 3, .assign (.tmp 8), none, false⟩,
   ⟨some 4, .assign (.tmp 9), none, false⟩])
 (.seq (.reg [⟨some 10, .move (.tmp 4), none, false⟩,
   ⟨some 11, .binOp .leq 3 (.tmp 10) (.const (.int .i64 3)) 3, none, false⟩,
   ⟨some 12, .move (.tmp 11), none, false⟩,
   ⟨some 13, .move (.tmp 3), some (12, true), false⟩,
   ⟨some 14, .call { callee := (.value (.func 23)), args := #[(.tmp 13)], argTypes := #[9] }, some (12, true), false⟩,
   ⟨some 15, .move (.tmp 14), some (12, true), false⟩,
   ⟨some 16, .move (.tmp 3), some (15, false), false⟩,
   ⟨some 17, .call { callee := (.value (.func 54)), args := #[(.tmp 16)], argTypes := #[9] }, some (15, false), false⟩,
   ⟨some 18, .pick (.tmp 15) (.const (.bool true)) (.tmp 17), some (12, true), false⟩,
   ⟨some 19, .pick (.tmp 12) (.tmp 18) (.const (.bool false)), none, false⟩,
   ⟨some 2, .assign (.tmp 19), none, false⟩])
 (.ret)))
def fr22 : FR := ⟨20, [.tmp 2], cc22⟩
theorem fnis22 : FnIs Tryz.prog 22 fr22 := ⟨Tryz.f22, _, [], [], Tryz.func22, rfl, by kernel_rfl, by kernel_rfl, by kernel_rfl, by kernel_rfl⟩
/-- function 23 -/
def cc23 : CC :=
 .seq (.reg [⟨some 2, .assign (.const (.bool false)), none, false⟩])
 (.seq (.reg [⟨some 3, .move (.tmp 0), none, false⟩,
   ⟨some 4, .binOp .eql 9 (.tmp 3) (.const (.string { data := #[105, 110, 116] })) 9, none, false⟩,
   ⟨some 5, .move (.tmp 4), none, false⟩,
   ⟨some 6, .move (.tmp 0), some (5, false), false⟩,
   ⟨some 7, .binOp .eql 9 (.tmp 6) (.const (.string { data := #[98, 111, 111, 108] })) 9, some (5, false), false⟩,
   ⟨some 8, .pick (.tmp 5) (.const (.bool true)) (.tmp 7), none, false⟩,
   ⟨some 9, .move (.tmp 8), none, false⟩,
   ⟨some 10, .move (.tmp 0), some (9, false), false⟩,
   ⟨some 11, .binOp .eql 9 (.tmp 10) (.const (.string { data := #[116, 101, 120, 116] })) 9, some (9, false), false⟩,
   ⟨some 12, .pick (.tmp 9) (.const (.bool true)) (.tmp 11), none, false⟩,
   ⟨some 2, .assign (.tmp 12), none, false⟩])
 (.ret))
def fr23 : FR := ⟨13, [.tmp 2], cc23⟩
theorem fnis23 : FnIs Tryz.prog 23 fr23 := ⟨Tryz.f23, _, [], [], Tryz.func23, rfl, by kernel_rfl, by kernel_rfl, by kernel_rfl, by kernel_rfl⟩
/-- function 24 -/
def cc24 : CC :=
 .seq (.reg [⟨some 4, .assign (.const (.bool false)), none, false⟩])
 (.seq (.reg [⟨some 8, .move (.tmp 0), none, false⟩,
   ⟨some 9, .nilCheck (.tmp 8), none, false⟩,
   ⟨some 10, .fieldAddr 61 (.tmp 9) 1, none, false⟩,
   ⟨some 11, .load 59 (.tmp 10), none, false⟩,
   ⟨some 12, .move (.tmp 1), none, false⟩,
   ⟨some 13, .lookup 59 (.tmp 11) (.tmp 12) true, none, false⟩,
   ⟨some 7, .move (.tmp 13), none, false⟩,
   ⟨some 14, .extract (.tmp 7) 0, none, false⟩,
   ⟨some 15, .extract (.tmp 7) 1, none, false⟩,
   ⟨some 5, .assign (.tmp 14), none, false⟩,
   ⟨some 6, .assign (.tmp 15), none, false⟩])
 (.seq (.reg [⟨some 16, .move (.tmp 6), none, false⟩,
   ⟨some 4, .assign (.tmp 16), none, false⟩])
 (.ret)))
def fr24 : FR := ⟨17, [.tmp 4], cc24⟩
theorem fnis24 : FnIs Tryz.prog 24 fr24 := ⟨Tryz.f24, _, [], [], Tryz.func24, rfl, by kernel_rfl, by kernel_rfl, by kernel_rfl, by kernel_rfl⟩
/-- function 25 -/
def cc25 : CC :=
 .seq (.reg [⟨some 1, .box 24 (.tmp 0), none, false⟩,
   ⟨some 2, .alloc 24, none, false⟩])
 (.seq (.reg [⟨some 3, .fieldAddr 24 (.tmp 1) 1, none, false⟩,
   ⟨some 4, .load 22 (.tmp 3), none, false⟩,
   ⟨some 6, .fieldAddr 24 (.tmp 1) 2, none, false⟩,
   ⟨some 7, .load 22 (.tmp 6), none, false⟩,
   ⟨some 5, .call { callee := (.value (.func 46)), args := #[(.tmp 4)], argTypes := #[22] }, none, false⟩,
   ⟨some 7, .load 22 (.tmp 6), none, true⟩,
   ⟨some 9, .fieldAddr 24 (.tmp 1) 1, none, false⟩,
   ⟨some 8, .call { callee := (.value (.func 46)), args := #[(.tmp 7)], argTypes := #[22] }, none, false⟩,
   ⟨none, .store 22 (.tmp 9) (.tmp 5), none, false⟩,
   ⟨some 10, .fieldAddr 24 (.tmp 1) 2, none, false⟩,
   ⟨none, .store 22 (.tmp 10) (.tmp 8), none, false⟩])
 (.seq (.reg [⟨some 11, .load 24 (.tmp 1), none, false⟩,
   ⟨none, .store 24 (.tmp 2) (.tmp 11), none, false⟩])
 (.ret)))
def fr25 : FR := ⟨12, [.cell 2 24], cc25⟩
theorem fnis25 : FnIs Tryz.prog 25 fr25 := ⟨Tryz.f25, _, [], [], Tryz.func25, rfl, by kernel_rfl, by kernel_rfl, by kernel_rfl, by kernel_rfl⟩
/-- function 26 -/
def cc26 : CC :=
 .seq (.reg [⟨some 6, .assign (.const (.string { data := #[] })), none, false⟩])
 (.seq (.block 0
 (.seq (.reg [⟨some 9, .move (.tmp 0), none, false⟩,
   ⟨some 10, .move (.tmp 1), none, false⟩,
   ⟨some 11, .move (.tmp 2), none, false⟩,
   ⟨some 12, .call { callee := (.value (.func 55)), args := #[(.tmp 9), (.tmp 10), (.tmp 11)], argTypes := #[25, 9, 9] }, none, false⟩,
   ⟨some 8, .assign (.tmp 12), none, false⟩])
 (.cond (.tmp 8)
 (.seq (.reg [⟨some 13, .move (.tmp 2), none, false⟩,
   ⟨some 6, .assign (.tmp 13), none, false⟩])
 (.ret))
 (.seq (.reg [⟨some 15, .move (.tmp 0), none, false⟩,
   ⟨some 16, .move (.tmp 2), none, false⟩,
   ⟨some 17, .move (.tmp 1), none, false⟩,
   ⟨some 18, .call { callee := (.value (.func 55)), args := #[(.tmp 15), (.tmp 16), (.tmp 17)], argTypes := #[25, 9, 9] }, none, false⟩,
   ⟨some 14, .assign (.tmp 18), none, false⟩])
 (.cond (.tmp 14)
 (.seq (.reg [⟨some 19, .move (.tmp 1), none, false⟩,
   ⟨some 6, .assign (.tmp 19), none, false⟩])
 (.ret))
 (.seq (.reg [⟨some 21, .move (.tmp 0), none, false⟩,
   ⟨some 22, .move (.tmp 1), none, false⟩,
   ⟨some 23, .call { callee := (.value (.func 9)), args := #[(.tmp 21), (.tmp 22)], argTypes := #[25, 9] }, none, false⟩,
   ⟨some 24, .unOp .not 4 (.tmp 23), none, false⟩,
   ⟨some 25, .move (.tmp 24), none, false⟩,
   ⟨some 26, .move (.tmp 0), some (25, false), false⟩,
   ⟨some 27, .move (.tmp 2), some (25, false), false⟩,
   ⟨some 28, .call { callee := (.value (.func 9)), args := #[(.tmp 26), (.tmp 27)], argTypes := #[25, 9] }, some (25, false), false⟩,
   ⟨some 29, .unOp .not 4 (.tmp 28), some (25, false), false⟩,
   ⟨some 30, .pick (.tmp 25) (.const (.bool true)) (.tmp 29), none, false⟩,
   ⟨some 31, .move (.tmp 30), none, false⟩,
   ⟨some 32, .move (.tmp 1), some (31, false), false⟩,
   ⟨some 33, .call { callee := (.value (.func 23)), args := #[(.tmp 32)], argTypes := #[9] }, some (31, false), false⟩,
   ⟨some 34, .pick (.tmp 31) (.const (.bool true)) (.tmp 33), none, false⟩,
   ⟨some 35, .move (.tmp 34), none, false⟩,
   ⟨some 36, .move (.tmp 2), some (35, false), false⟩,
   ⟨some 37, .call { callee := (.value (.func 23)), args := #[(.tmp 36)], argTypes := #[9] }, some (35, false), false⟩,
   ⟨some 38, .pick (.tmp 35) (.const (.bool true)) (.tmp 37), none, false⟩,
   ⟨some 20, .assign (.tmp 38), none, false⟩])
 (.cond (.tmp 20)
 (.seq (.reg [⟨some 6, .assign (.const (.string { data := #[] })), none, false⟩])
 (.ret))
 (.skip))))))))
 (.seq (.seq (.reg [⟨some 39, .move (.tmp 1), none, false⟩,
   ⟨some 7, .assign (.tmp 39), none, false⟩])
 (.block 1
 (.loop [0, 2, 7]
 (.seq (.seq (.reg [⟨some 40, .move (.tmp 0), none, false⟩,
   ⟨some 41, .move (.tmp 7), none, false⟩,
   ⟨some 42, .call { callee := (.value (.func 24)), args := #[(.tmp 40), (.tmp 41)], argTypes := #[25, 9] }, none, false⟩])
 (.cond (.tmp 42)
 (.skip)
 (.exit 1)))
 (.seq (.block 2
 (.seq (.reg [⟨some 47, .move (.tmp 0), none, false⟩,
   ⟨some 48, .move (.tmp 2), none, false⟩,
   ⟨some 49, .move (.tmp 7), none, false⟩,
   ⟨some 50, .call { callee := (.value (.func 55)), args := #[(.tmp 47), (.tmp 48), (.tmp 49)], argTypes := #[25, 9, 9] }, none, false⟩])
 (.cond (.tmp 50)
 (.seq (.reg [⟨some 51, .move (.tmp 7), none, false⟩,
   ⟨some 6, .assign (.tmp 51), none, false⟩])
 (.ret))
 (.skip))))
 (.reg [⟨some 43, .move (.tmp 0), none, false⟩,
   ⟨some 44, .move (.tmp 7), none, false⟩,
   ⟨some 45, .call { callee := (.value (.func 56)), args := #[(.tmp 43), (.tmp 44)], argTypes := #[25, 9] }, none, false⟩,
   ⟨some 46, .field 65 (.tmp 45) 1, none, false⟩,
   ⟨some 7, .assign (.tmp 46), none, false⟩]))))))
 (.seq (.reg [⟨some 6, .assign (.const (.string { data := #[79, 98, 106, 101, 99, 116] })), none, false⟩])
 (.ret))))
def fr26 : FR := ⟨52, [.tmp 6], cc26⟩
theorem fnis26 : FnIs Tryz.prog 26 fr26 := ⟨Tryz.f26, _, [[0, 2, 7]], [], Tryz.func26, rfl, by kernel_rfl, by kernel_rfl, by kernel_rfl, by kernel_rfl⟩
/-- function 27 -/
def cc27 : CC :=
 .seq (.reg [⟨some 4, .assign (.const (.bool false)), none, false⟩])
 (.seq (.seq (.reg [⟨some 6, .move (.tmp 0), none, false⟩,
   ⟨some 7, .call { callee := (.builtin .len), args := #[(.tmp 6)], argTypes := #[22] }, none, false⟩,
   ⟨some 8, .move (.tmp 1), none, false⟩,
   ⟨some 9, .call { callee := (.builtin .len), args := #[(.tmp 8)], argTypes := #[22] }, none, false⟩,
   ⟨some 10, .binOp .neq 3 (.tmp 7) (.tmp 9) 3, none, false⟩])
 (.cond (.tmp 10)
 (.seq (.reg [⟨some 4, .assign (.const (.bool false)), none, false⟩])
 (.ret))
 (.skip)))
 (.seq (.seq (.reg [⟨some 5, .assign (.const (.int .i64 0)), none, false⟩])
 (.block 0
 (.loop [0, 1, 5]
 (.seq (.seq (.reg [⟨some 11, .move (.tmp 5), none, false⟩,
   ⟨some 12, .move (.tmp 0), none, false⟩,
   ⟨some 13, .call { callee := (.builtin .len), args := #[(.tmp 12)], argTypes := #[22] }, none, false⟩,
   ⟨some 14, .binOp .lss 3 (.tmp 11) (.tmp 13) 3, none, false⟩])
 (.cond (.tmp 14)
 (.skip)
 (.exit 0)))
 (.seq (.block 1
 (.seq (.reg [⟨some 17, .move (.tmp 0), none, false⟩,
   ⟨some 18, .move (.tmp 5), none, false⟩,
   ⟨some 19, .indexAddr 22 (.tmp 17) (.tmp 18), none, false⟩,
   ⟨some 20, .load 9 (.tmp 19), none, false⟩,
   ⟨some 21, .move (.tmp 1), none, false⟩,
   ⟨some 22, .move (.tmp 5), none, false⟩,
   ⟨some 23, .indexAddr 22 (.tmp 21) (.tmp 22), none, false⟩,
   ⟨some 24, .load 9 (.tmp 23), none, false⟩,
   ⟨some 25, .binOp .neq 9 (.tmp 20) (.tmp 24) 9, none, false⟩])
 (.cond (.tmp 25)
 (.seq (.reg [⟨some 4, .assign (.const (.bool false)), none, false⟩])
 (.ret))
 (.skip))))
 (.reg [⟨some 15, .move (.tmp 5), none, false⟩,
   ⟨some 16, .binOp .add 3 (.tmp 15) (.const (.int .i64 1)) 3, none, false⟩,
   ⟨some 5, .assign (.tmp 16), none, false⟩]))))))
 (.seq (.reg [⟨some 4, .assign (.const (.bool true)), none, false⟩])
 (.ret))))
def fr27 : FR := ⟨26, [.tmp 4], cc27⟩
theorem fnis27 : FnIs Tryz.prog 27 fr27 := ⟨Tryz.f27, _, [[0, 1, 5]], [], Tryz.func27, rfl, by kernel_rfl, by kernel_rfl, by kernel_rfl, by kernel_rfl⟩
/-- function 28 -/
def cc28 : CC :=
 .seq (.reg [⟨some 4, .assign (.const (.bool false)), none, false⟩])
 (.seq (.seq (.reg [⟨some 6, .move (.tmp 0), none, false⟩,
   ⟨some 7, .call { callee := (.builtin .len), args := #[(.tmp 6)], argTypes := #[22] }, none, false⟩,
   ⟨some 8, .move (.tmp 1), none, false⟩,
   ⟨some 9, .call { callee := (.builtin .len), args := #[(.tmp 8)], argTypes := #[22] }, none, false⟩,
   ⟨some 10, .binOp .neq 3 (.tmp 7) (.tmp 9) 3, none, false⟩])
 (.cond (.tmp 10)
 (.seq (.reg [⟨some 4, .assign (.const (.bool false)), none, false⟩])
 (.ret))
 (.skip)))
 (.seq (.seq (.reg [⟨some 11, .move (.tmp 0), none, false⟩,
   ⟨some 12, .call { callee := (.builtin .len), args := #[(.tmp 11)], argTypes := #[22] }, none, false⟩,
   ⟨some 13, .move (.const (.int .i64 0)), none, false⟩])
 (.block 0
 (.loop [0, 1, 12, 13]
 (.seq (.reg [⟨some 14, .binOp .lss 3 (.tmp 13) (.tmp 12) 3, none, false⟩])
 (.seq (.cond (.tmp 14)
 (.skip)
 (.exit 0))
 (.seq (.block 1
 (.seq (.reg [⟨some 15, .move (.tmp 13), none, false⟩,
   ⟨some 5, .assign (.tmp 15), none, false⟩])
 (.seq (.reg [⟨some 16, .move (.tmp 0), none, false⟩,
   ⟨some 17, .move (.tmp 5), none, false⟩,
   ⟨some 18, .indexAddr 22 (.tmp 16) (.tmp 17), none, false⟩,
   ⟨some 19, .load 9 (.tmp 18), none, false⟩,
   ⟨some 20, .move (.tmp 1), none, false⟩,
   ⟨some 21, .move (.tmp 5), none, false⟩,
   ⟨some 22, .indexAddr 22 (.tmp 20) (.tmp 21), none, false⟩,
   ⟨some 23, .load 9 (.tmp 22), none, false⟩,
   ⟨some 24, .binOp .neq 9 (.tmp 19) (.tmp 23) 9, none, false⟩])
 (.cond (.tmp 24)
 (.seq (.reg [⟨some 4, .assign (.const (.bool false)), none, false⟩])
 (.ret))
 (.skip)))))
 (.reg [⟨some 25, .binOp .add 3 (.tmp 13) (.const (.int .i64 1)) 3, none, false⟩,
   ⟨some 13, .move (.tmp 25), none, false⟩])))))))
 (.seq (.reg [⟨some 4, .assign (.const (.bool true)), none, false⟩])
 (.ret))))
def fr28 : FR := ⟨26, [.tmp 4], cc28⟩
theorem fnis28 : FnIs Tryz.prog 28 fr28 := ⟨Tryz.f28, _, [[0, 1, 12, 13]], [], Tryz.func28, rfl, by kernel_rfl, by kernel_rfl, by kernel_rfl, by kernel_rfl⟩
/-- function 29 -/
def cc29 : CC :=
 .seq (.reg [⟨some 4, .assign (.const (.bool false)), none, false⟩])
 (.seq (.reg [⟨some 5, .move (.tmp 0), none, false⟩,
   ⟨some 6, .move (.tmp 1), none, false⟩,
   ⟨some 7, .call { callee := (.value (.func 57)), args := #[(.tmp 5), (.tmp 6)], argTypes := #[42, 58] }, none, false⟩,
   ⟨some 8, .binOp .geq 3 (.tmp 7) (.const (.int .i64 0)) 3, none, false⟩,
   ⟨some 4, .assign (.tmp 8), none, false⟩])
 (.ret))
def fr29 : FR := ⟨9, [.tmp 4], cc29⟩
theorem fnis29 : FnIs Tryz.prog 29 fr29 := ⟨Tryz.f29, _, [], [], Tryz.func29, rfl, by kernel_rfl, by kernel_rfl, by kernel_rfl, by kernel_rfl⟩
/-- function 30 -/
def cc30 : CC :=
 .seq (.reg [⟨some 3, .assign (.const (.bool false)), none, false⟩])
 (.seq (.reg [⟨some 4, .move (.tmp 0), none, false⟩,
   ⟨some 5, .load 36 (.tmp 1), none, false⟩,
   ⟨some 6, .call { callee := (.builtin .len), args := #[(.tmp 5)], argTypes := #[36] }, none, false⟩,
   ⟨some 7, .binOp .geq 3 (.tmp 4) (.tmp 6) 3, none, false⟩,
   ⟨some 3, .assign (.tmp 7), none, false⟩])
 (.ret))
def fr30 : FR := ⟨8, [.tmp 3], cc30⟩
theorem fnis30 : FnIs Tryz.prog 30 fr30 := ⟨Tryz.f30, _, [], [], Tryz.func30, rfl, by kernel_rfl, by kernel_rfl, by kernel_rfl, by kernel_rfl⟩
/-- function 31 -/
def cc31 : CC :=
 .seq (.reg [⟨some 0, .assign (.const (.slice none 0 0)), none, false⟩])
 (.seq (.reg [⟨some 4, .build 65 #[(0, (.const (.string { data := #[79, 98, 106, 101, 99, 116] })))], none, false⟩,
   ⟨some 5, .build 72 #[(0, (.const (.string { data := #[119, 104, 97, 116] }))), (1, (.const (.string { data := #[116, 101, 120, 116] })))], none, false⟩,
   ⟨some 6, .buildSlice 62 1 #[(0, (.tmp 5))], none, false⟩,
   ⟨some 7, .build 65 #[(0, (.const (.string { data := #[70, 97, 117, 108, 116] }))), (1, (.const (.string { data := #[79, 98, 106, 101, 99, 116] }))), (6, (.tmp 6))], none, false⟩,
   ⟨some 8, .buildSlice 26 2 #[(0, (.tmp 4)), (1, (.tmp 7))], none, false⟩,
   ⟨some 1, .assign (.tmp 8), none, false⟩])
 (.seq (.seq (.reg [⟨some 9, .load 102 (.global 0), none, false⟩,
   ⟨some 10, .move (.const (.int .i64 0)), none, false⟩])
 (.block 0
 (.loop [1, 9, 10]
 (.seq (.reg [⟨some 11, .binOp .lss 3 (.tmp 10) (.const (.int .i64 6)) 3, none, false⟩])
 (.seq (.cond (.tmp 11)
 (.skip)
 (.exit 0))
 (.seq (.block 1
 (.seq (.reg [⟨some 12, .index 102 (.tmp 9) (.tmp 10), none, false⟩,
   ⟨some 3, .assign (.tmp 12), none, false⟩])
 (.reg [⟨some 13, .move (.tmp 1), none, false⟩,
   ⟨some 14, .move (.tmp 3), none, false⟩,
   ⟨some 15, .build 65 #[(0, (.tmp 14)), (1, (.const (.string { data := #[70, 97, 117, 108, 116] }))), (5, (.const (.bool true)))], none, false⟩,
   ⟨some 16, .buildSlice 26 1 #[(0, (.tmp 15))], none, false⟩,
   ⟨some 17, .call { callee := (.builtin .append), args := #[(.tmp 13), (.tmp 16)], argTypes := #[26, 26] }, none, false⟩,
   ⟨some 1, .assign (.tmp 17), none, false⟩])))
 (.reg [⟨some 18, .binOp .add 3 (.tmp 10) (.const (.int .i64 1)) 3, none, false⟩,
   ⟨some 10, .move (.tmp 18), none, false⟩])))))))
 (.seq (.reg [⟨some 19, .move (.tmp 1), none, false⟩,
   ⟨some 0, .assign (.tmp 19), none, false⟩])
 (.ret))))
def fr31 : FR := ⟨20, [.tmp 0], cc31⟩
theorem fnis31 : FnIs Tryz.prog 31 fr31 := ⟨Tryz.f31, _, [[1, 9, 10]], [], Tryz.func31, rfl, by kernel_rfl, by kernel_rfl, by kernel_rfl, by kernel_rfl⟩
/-- function 32 -/
def cc32 : CC :=
 .seq (.reg [⟨some 1, .box 65 (.tmp 0), none, false⟩,
   ⟨some 2, .assign (.const (.int .i64 0)), none, false⟩])
 (.seq (.block 0
 (.seq (.reg [⟨some 4, .load 65 (.tmp 1), none, false⟩,
   ⟨some 5, .call { callee := (.value (.func 58)), args := #[(.tmp 4)], argTypes := #[65] }, none, false⟩,
   ⟨some 3, .assign (.tmp 5), none, false⟩])
 (.cond (.tmp 3)
 (.seq (.reg [⟨some 2, .assign (.const (.int .i64 51)), none, false⟩])
 (.ret))
 (.seq (.reg [⟨some 7, .load 65 (.tmp 1), none, false⟩,
   ⟨some 8, .call { callee := (.value (.func 59)), args := #[(.tmp 7)], argTypes := #[65] }, none, false⟩,
   ⟨some 9, .unOp .not 4 (.tmp 8), none, false⟩,
   ⟨some 6, .assign (.tmp 9), none, false⟩])
 (.cond (.tmp 6)
 (.seq (.reg [⟨some 2, .assign (.const (.int .i64 50)), none, false⟩])
 (.ret))
 (.skip))))))
 (.seq (.reg [⟨some 2, .assign (.const (.int .i64 0)), none, false⟩])
 (.ret)))
def fr32 : FR := ⟨10, [.tmp 2], cc32⟩
theorem fnis32 : FnIs Tryz.prog 32 fr32 := ⟨Tryz.f32, _, [], [], Tryz.func32, rfl, by kernel_rfl, by kernel_rfl, by kernel_rfl, by kernel_rfl⟩
/-- function 33 -/
def cc33 : CC :=
 .seq (.reg [⟨some 1, .box 65 (.tmp 0), none, false⟩,
   ⟨some 2, .alloc 65, none, false⟩])
 (.seq (.reg [⟨some 6, .fieldAddr 65 (.tmp 1) 2, none, false⟩,
   ⟨some 7, .load 22 (.tmp 6), none, false⟩,
   ⟨some 9, .fieldAddr 65 (.tmp 1) 6, none, false⟩,
   ⟨some 10, .load 62 (.tmp 9), none, false⟩,
   ⟨some 8, .call { callee := (.value (.func 46)), args := #[(.tmp 7)], argTypes := #[22] }, none, false⟩,
   ⟨some 10, .load 62 (.tmp 9), none, true⟩,
   ⟨some 12, .fieldAddr 65 (.tmp 1) 2, none, false⟩,
   ⟨some 11, .call { callee := (.value (.func 60)), args := #[(.tmp 10)], argTypes := #[62] }, none, false⟩,
   ⟨none, .store 22 (.tmp 12) (.tmp 8), none, false⟩,
   ⟨some 13, .fieldAddr 65 (.tmp 1) 6, none, false⟩,
   ⟨none, .store 62 (.tmp 13) (.tmp 11), none, false⟩])
 (.seq (.reg [⟨some 3, .assign (.const (.slice none 0 0)), none, false⟩])
 (.seq (.seq (.reg [⟨some 14, .fieldAddr 65 (.tmp 1) 7, none, false⟩,
   ⟨some 15, .load 63 (.tmp 14), none, false⟩,
   ⟨some 16, .call { callee := (.builtin .len), args := #[(.tmp 15)], argTypes := #[63] }, none, false⟩,
   ⟨some 17, .move (.const (.int .i64 0)), none, false⟩])
 (.block 0
 (.loop [1, 2, 3, 15, 16, 17]
 (.seq (.reg [⟨some 18, .binOp .lss 3 (.tmp 17) (.tmp 16) 3, none, false⟩])
 (.seq (.cond (.tmp 18)
 (.skip)
 (.exit 0))
 (.seq (.block 1
 (.seq (.reg [⟨some 19, .indexAddr 63 (.tmp 15) (.tmp 17), none, false⟩,
   ⟨some 20, .load 39 (.tmp 19), none, false⟩,
   ⟨some 5, .alloc 39, none, false⟩,
   ⟨none, .store 39 (.tmp 5) (.tmp 20), none, false⟩])
 (.reg [⟨some 21, .move (.tmp 3), none, false⟩,
   ⟨some 22, .load 39 (.tmp 5), none, false⟩,
   ⟨some 23, .call { callee := (.value (.func 61)), args := #[(.tmp 22)], argTypes := #[39] }, none, false⟩,
   ⟨some 24, .buildSlice 63 1 #[(0, (.tmp 23))], none, false⟩,
   ⟨some 25, .call { callee := (.builtin .append), args := #[(.tmp 21), (.tmp 24)], argTypes := #[63, 63] }, none, false⟩,
   ⟨some 3, .assign (.tmp 25), none, false⟩])))
 (.reg [⟨some 26, .binOp .add 3 (.tmp 17) (.const (.int .i64 1)) 3, none, false⟩,
   ⟨some 17, .move (.tmp 26), none, false⟩])))))))
 (.seq (.reg [⟨some 27, .move (.tmp 3), none, false⟩,
   ⟨some 28, .fieldAddr 65 (.tmp 1) 7, none, false⟩,
   ⟨none, .store 63 (.tmp 28) (.tmp 27), none, false⟩])
 (.seq (.reg [⟨some 29, .load 65 (.tmp 1), none, false⟩,
   ⟨none, .store 65 (.tmp 2) (.tmp 29), none, false⟩])
 (.ret))))))
def fr33 : FR := ⟨30, [.cell 2 65], cc33⟩
theorem fnis33 : FnIs Tryz.prog 33 fr33 := ⟨Tryz.f33, _, [[1, 2, 3, 15, 16, 17]], [], Tryz.func33, rfl, by kernel_rfl, by kernel_rfl, by kernel_rfl, by kernel_rfl⟩
/-- function 34 -/
def cc34 : CC :=
 .seq (.reg [⟨some 3, .box 65 (.tmp 1), none, false⟩,
   ⟨some 4, .assign (.const (.int .i64 0)), none, false⟩])
 (.seq (.seq (.reg [⟨some 7, .move (.tmp 0), none, false⟩,
   ⟨some 8, .fieldAddr 65 (.tmp 3) 1, none, false⟩,
   ⟨some 9, .load 9 (.tmp 8), none, false⟩,
   ⟨some 10, .call { callee := (.value (.func 24)), args := #[(.tmp 7), (.tmp 9)], argTypes := #[25, 9] }, none, false⟩,
   ⟨some 11, .unOp .not 4 (.tmp 10), none, false⟩,
   ⟨some 12, .move (.tmp 11), none, false⟩,
   ⟨some 13, .move (.tmp 0), some (12, false), false⟩,
   ⟨some 14, .fieldAddr 65 (.tmp 3) 1, some (12, false), false⟩,
   ⟨some 15, .load 9 (.tmp 14), some (12, false), false⟩,
   ⟨some 16, .call { callee := (.value (.func 56)), args := #[(.tmp 13), (.tmp 15)], argTypes := #[25, 9] }, some (12, false), false⟩,
   ⟨some 17, .field 65 (.tmp 16) 3, some (12, false), false⟩,
   ⟨some 18, .pick (.tmp 12) (.const (.bool true)) (.tmp 17), none, false⟩,
   ⟨some 19, .move (.tmp 18), none, false⟩,
   ⟨some 20, .move (.tmp 0), some (19, false), false⟩,
   ⟨some 21, .fieldAddr 65 (.tmp 3) 1, some (19, false), false⟩,
   ⟨some 22, .load 9 (.tmp 21), some (19, false), false⟩,
   ⟨some 23, .call { callee := (.value (.func 56)), args := #[(.tmp 20), (.tmp 22)], argTypes := #[25, 9] }, some (19, false), false⟩,
   ⟨some 24, .field 65 (.tmp 23) 5, some (19, false), false⟩,
   ⟨some 25, .pick (.tmp 19) (.const (.bool true)) (.tmp 24), none, false⟩])
 (.cond (.tmp 25)
 (.seq (.reg [⟨some 4, .assign (.const (.int .i64 61)), none, false⟩])
 (.ret))
 (.skip)))
 (.seq (.seq (.reg [⟨some 26, .fieldAddr 65 (.tmp 3) 2, none, false⟩,
   ⟨some 27, .load 22 (.tmp 26), none, false⟩,
   ⟨some 28, .call { callee := (.builtin .len), args := #[(.tmp 27)], argTypes := #[22] }, none, false⟩,
   ⟨some 29, .move (.const (.int .i64 0)), none, false⟩])
 (.block 0
 (.loop [0, 27, 28, 29]
 (.seq (.reg [⟨some 30, .binOp .lss 3 (.tmp 29) (.tmp 28) 3, none, false⟩])
 (.seq (.cond (.tmp 30)
 (.skip)
 (.exit 0))
 (.seq (.block 1
 (.seq (.reg [⟨some 31, .indexAddr 22 (.tmp 27) (.tmp 29), none, false⟩,
   ⟨some 32, .load 9 (.tmp 31), none, false⟩,
   ⟨some 6, .assign (.tmp 32), none, false⟩])
 (.seq (.reg [⟨some 33, .move (.tmp 0), none, false⟩,
   ⟨some 34, .move (.tmp 6), none, false⟩,
   ⟨some 35, .call { callee := (.value (.func 24)), args := #[(.tmp 33), (.tmp 34)], argTypes := #[25, 9] }, none, false⟩,
   ⟨some 36, .unOp .not 4 (.tmp 35), none, false⟩,
   ⟨some 37, .move (.tmp 36), none, false⟩,
   ⟨some 38, .move (.tmp 0), some (37, false), false⟩,
   ⟨some 39, .move (.tmp 6), some (37, false), false⟩,
   ⟨some 40, .call { callee := (.value (.func 56)), args := #[(.tmp 38), (.tmp 39)], argTypes := #[25, 9] }, some (37, false), false⟩,
   ⟨some 41, .field 65 (.tmp 40) 3, some (37, false), false⟩,
   ⟨some 42, .unOp .not 4 (.tmp 41), some (37, false), false⟩,
   ⟨some 43, .pick (.tmp 37) (.const (.bool true)) (.tmp 42), none, false⟩])
 (.cond (.tmp 43)
 (.seq (.reg [⟨some 4, .assign (.const (.int .i64 62)), none, false⟩])
 (.ret))
 (.skip)))))
 (.reg [⟨some 44, .binOp .add 3 (.tmp 29) (.const (.int .i64 1)) 3, none, false⟩,
   ⟨some 29, .move (.tmp 44), none, false⟩])))))))
 (.seq (.reg [⟨some 4, .assign (.const (.int .i64 0)), none, false⟩])
 (.ret))))
def fr34 : FR := ⟨45, [.tmp 4], cc34⟩
theorem fnis34 : FnIs Tryz.prog 34 fr34 := ⟨Tryz.f34, _, [[0, 27, 28, 29]], [], Tryz.func34, rfl, by kernel_rfl, by kernel_rfl, by kernel_rfl, by kernel_rfl⟩
/-- function 35 -/
def cc35 : CC :=
 .seq (.reg [⟨some 4, .assign (.const (.int .i64 0)), none, false⟩])
 (.seq (.seq (.reg [⟨some 6, .move (.tmp 0), none, false⟩,
   ⟨some 7, .call { callee := (.builtin .len), args := #[(.tmp 6)], argTypes := #[26] }, none, false⟩,
   ⟨some 8, .move (.const (.int .i64 0)), none, false⟩])
 (.block 0
 (.loop [0, 1, 7, 8]
 (.seq (.reg [⟨some 9, .binOp .lss 3 (.tmp 8) (.tmp 7) 3, none, false⟩])
 (.seq (.cond (.tmp 9)
 (.skip)
 (.exit 0))
 (.seq (.block 1
 (.seq (.reg [⟨some 10, .move (.tmp 8), none, false⟩,
   ⟨some 5, .assign (.tmp 10), none, false⟩])
 (.seq (.reg [⟨some 11, .move (.tmp 1), none, false⟩,
   ⟨some 12, .move (.tmp 0), none, false⟩,
   ⟨some 13, .move (.tmp 5), none, false⟩,
   ⟨some 14, .indexAddr 26 (.tmp 12) (.tmp 13), none, false⟩,
   ⟨some 15, .load 65 (.tmp 14), none, false⟩,
   ⟨some 16, .call { callee := (.value (.tmp 11)), args := #[(.tmp 15)], argTypes := #[65] }, none, false⟩])
 (.cond (.tmp 16)
 (.seq (.reg [⟨some 17, .move (.tmp 5), none, false⟩,
   ⟨some 4, .assign (.tmp 17), none, false⟩])
 (.ret))
 (.skip)))))
 (.reg [⟨some 18, .binOp .add 3 (.tmp 8) (.const (.int .i64 1)) 3, none, false⟩,
   ⟨some 8, .move (.tmp 18), none, false⟩])))))))
 (.seq (.reg [⟨some 4, .assign (.const (.int .i64 (-1))), none, false⟩])
 (.ret)))
def fr35 : FR := ⟨19, [.tmp 4], cc35⟩
theorem fnis35 : FnIs Tryz.prog 35 fr35 := ⟨Tryz.f35, _, [[0, 1, 7, 8]], [], Tryz.func35, rfl, by kernel_rfl, by kernel_rfl, by kernel_rfl, by kernel_rfl⟩
/-- function 36 -/
def cc36 : CC :=
 .seq (.reg [⟨some 2, .box 25 (.tmp 0), none, false⟩,
   ⟨some 3, .box 65 (.tmp 1), none, false⟩,
   ⟨some 4, .assign (.const (.bool false)), none, false⟩])
 (.seq (.reg [⟨some 6, .makeFunc (.func 62) #[] #[(.tmp 2), (.tmp 3)], none, false⟩,
   ⟨some 5, .assign (.tmp 6), none, false⟩])
 (.seq (.reg [⟨some 7, .move (.tmp 5), none, false⟩,
   ⟨some 8, .fieldAddr 65 (.tmp 3) 1, none, false⟩,
   ⟨some 9, .load 9 (.tmp 8), none, false⟩,
   ⟨some 10, .call { callee := (.value (.tmp 7)), args := #[(.tmp 9)], argTypes := #[9] }, none, false⟩,
   ⟨some 11, .move (.tmp 10), none, false⟩,
   ⟨some 12, .fieldAddr 65 (.tmp 3) 2, some (11, false), false⟩,
   ⟨some 13, .load 22 (.tmp 12), some (11, false), false⟩,
   ⟨some 14, .move (.tmp 5), some (11, false), false⟩,
   ⟨some 15, .call { callee := (.value (.func 65)), args := #[(.tmp 13), (.tmp 14)], argTypes := #[22, 31] }, some (11, false), false⟩,
   ⟨some 16, .pick (.tmp 11) (.const (.bool true)) (.tmp 15), none, false⟩,
   ⟨some 4, .assign (.tmp 16), none, false⟩])
 (.ret)))
def fr36 : FR := ⟨17, [.tmp 4], cc36⟩
theorem fnis36 : FnIs Tryz.prog 36 fr36 := ⟨Tryz.f36, _, [], [], Tryz.func36, rfl, by kernel_rfl, by kernel_rfl, by kernel_rfl, by kernel_rfl⟩
/-- function 37 -/
def cc37 : CC :=
 .seq (.reg [⟨some 2, .box 25 (.tmp 0), none, false⟩,
   ⟨some 3, .box 3 (.tmp 1), none, false⟩,
   ⟨some 4, .assign (.const (.slice none 0 0)), none, false⟩])
 (.seq (.reg [⟨some 5, .alloc 42, none, false⟩])
 (.seq (.reg [⟨some 6, .alloc 107, none, false⟩])
 (.seq (.reg [⟨some 8, .makeFunc (.func 66) #[] #[(.tmp 3), (.tmp 5), (.tmp 2), (.tmp 6)], none, false⟩,
   ⟨none, .store 107 (.tmp 6) (.tmp 8), none, false⟩])
 (.seq (.seq (.reg [⟨some 9, .load 3 (.tmp 3), none, false⟩,
   ⟨some 7, .assign (.tmp 9), none, false⟩])
 (.block 0
 (.loop [2, 5, 6, 7]
 (.seq (.seq (.reg [⟨some 10, .move (.tmp 7), none, false⟩,
   ⟨some 11, .load 25 (.tmp 2), none, false⟩,
   ⟨some 12, .nilCheck (.tmp 11), none, false⟩,
   ⟨some 13, .fieldAddr 61 (.tmp 12) 0, none, false⟩,
   ⟨some 14, .load 26 (.tmp 13), none, false⟩,
   ⟨some 15, .call { callee := (.builtin .len), args := #[(.tmp 14)], argTypes := #[26] }, none, false⟩,
   ⟨some 16, .binOp .lss 3 (.tmp 10) (.tmp 15) 3, none, false⟩])
 (.cond (.tmp 16)
 (.skip)
 (.exit 0)))
 (.seq (.block 1
 (.reg [⟨some 19, .load 107 (.tmp 6), none, false⟩,
   ⟨some 20, .move (.tmp 7), none, false⟩,
   ⟨some 21, .call { callee := (.value (.tmp 19)), args := #[(.tmp 20)], argTypes := #[3] }, none, false⟩]))
 (.reg [⟨some 17, .move (.tmp 7), none, false⟩,
   ⟨some 18, .binOp .add 3 (.tmp 17) (.const (.int .i64 1)) 3, none, false⟩,
   ⟨some 7, .assign (.tmp 18), none, false⟩]))))))
 (.seq (.reg [⟨some 22, .load 42 (.tmp 5), none, false⟩,
   ⟨some 4, .assign (.tmp 22), none, false⟩])
 (.ret))))))
def fr37 : FR := ⟨23, [.tmp 4], cc37⟩
theorem fnis37 : FnIs Tryz.prog 37 fr37 := ⟨Tryz.f37, _, [[2, 5, 6, 7]], [], Tryz.func37, rfl, by kernel_rfl, by kernel_rfl, by kernel_rfl, by kernel_rfl⟩
/-- function 38 -/
def cc38 : CC :=
 .seq (.reg [⟨some 2, .box 25 (.tmp 0), none, false⟩,
   ⟨some 3, .box 65 (.tmp 1), none, false⟩,
   ⟨some 4, .assign (.const (.int .i64 0)), none, false⟩])
 (.seq (.seq (.reg [⟨some 18, .fieldAddr 65 (.tmp 3) 6, none, false⟩,
   ⟨some 19, .load 62 (.tmp 18), none, false⟩,
   ⟨some 20, .call { callee := (.builtin .len), args := #[(.tmp 19)], argTypes := #[62] }, none, false⟩,
   ⟨some 21, .move (.const (.int .i64 0)), none, false⟩])
 (.block 0
 (.loop [2, 3, 19, 20, 21]
 (.seq (.reg [⟨some 22, .binOp .lss 3 (.tmp 21) (.tmp 20) 3, none, false⟩])
 (.seq (.cond (.tmp 22)
 (.skip)
 (.exit 0))
 (.seq (.block 1
 (.seq (.reg [⟨some 23, .indexAddr 62 (.tmp 19) (.tmp 21), none, false⟩,
   ⟨some 24, .load 72 (.tmp 23), none, false⟩,
   ⟨some 6, .alloc 72, none, false⟩,
   ⟨none, .store 72 (.tmp 6) (.tmp 24), none, false⟩])
 (.seq (.reg [⟨some 25, .load 25 (.tmp 2), none, false⟩,
   ⟨some 26, .fieldAddr 65 (.tmp 3) 1, none, false⟩,
   ⟨some 27, .load 9 (.tmp 26), none, false⟩,
   ⟨some 28, .fieldAddr 72 (.tmp 6) 0, none, false⟩,
   ⟨some 29, .load 9 (.tmp 28), none, false⟩,
   ⟨some 30, .call { callee := (.value (.func 68)), args := #[(.tmp 25), (.tmp 27), (.tmp 29)], argTypes := #[25, 9, 9] }, none, false⟩,
   ⟨some 31, .binOp .geq 3 (.tmp 30) (.const (.int .i64 0)) 3, none, false⟩])
 (.cond (.tmp 31)
 (.seq (.reg [⟨some 4, .assign (.const (.int .i64 64)), none, false⟩])
 (.ret))
 (.skip)))))
 (.reg [⟨some 32, .binOp .add 3 (.tmp 21) (.const (.int .i64 1)) 3, none, false⟩,
   ⟨some 21, .move (.tmp 32), none, false⟩])))))))
 (.seq (.reg [⟨some 33, .makeFunc (.func 69) #[] #[(.tmp 2)], none, false⟩,
   ⟨some 7, .alloc 31, none, false⟩,
   ⟨none, .store 31 (.tmp 7) (.tmp 33), none, false⟩])
 (.seq (.seq (.reg [⟨some 34, .fieldAddr 65 (.tmp 3) 6, none, false⟩,
   ⟨some 35, .load 62 (.tmp 34), none, false⟩,
   ⟨some 36, .call { callee := (.builtin .len), args := #[(.tmp 35)], argTypes := #[62] }, none, false⟩,
   ⟨some 37, .move (.const (.int .i64 0)), none, false⟩])
 (.block 2
 (.loop [2, 3, 7, 35, 36, 37]
 (.seq (.reg [⟨some 38, .binOp .lss 3 (.tmp 37) (.tmp 36) 3, none, false⟩])
 (.seq (.cond (.tmp 38)
 (.skip)
 (.exit 2))
 (.seq (.block 3
 (.seq (.reg [⟨some 39, .indexAddr 62 (.tmp 35) (.tmp 37), none, false⟩,
   ⟨some 40, .load 72 (.tmp 39), none, false⟩,
   ⟨some 9, .alloc 72, none, false⟩,
   ⟨none, .store 72 (.tmp 9) (.tmp 40), none, false⟩])
 (.seq (.reg [⟨some 41, .load 31 (.tmp 7), none, false⟩,
   ⟨some 42, .fieldAddr 72 (.tmp 9) 1, none, false⟩,
   ⟨some 43, .load 9 (.tmp 42), none, false⟩,
   ⟨some 44, .call { callee := (.value (.tmp 41)), args := #[(.tmp 43)], argTypes := #[9] }, none, false⟩,
   ⟨some 45, .unOp .not 4 (.tmp 44), none, false⟩])
 (.cond (.tmp 45)
 (.seq (.reg [⟨some 4, .assign (.const (.int .i64 65)), none, false⟩])
 (.ret))
 (.skip)))))
 (.reg [⟨some 46, .binOp .add 3 (.tmp 37) (.const (.int .i64 1)) 3, none, false⟩,
   ⟨some 37, .move (.tmp 46), none, false⟩])))))))
 (.seq (.seq (.reg [⟨some 47, .fieldAddr 65 (.tmp 3) 7, none, false⟩,
   ⟨some 48, .load 63 (.tmp 47), none, false⟩,
   ⟨some 49, .call { callee := (.builtin .len), args := #[(.tmp 48)], argTypes := #[63] }, none, false⟩,
   ⟨some 50, .move (.const (.int .i64 0)), none, false⟩])
 (.block 4
 (.loop [2, 3, 7, 48, 49, 50]
 (.seq (.reg [⟨some 51, .binOp .lss 3 (.tmp 50) (.tmp 49) 3, none, false⟩])
 (.seq (.cond (.tmp 51)
 (.skip)
 (.exit 4))
 (.seq (.block 5
 (.seq (.reg [⟨some 52, .indexAddr 63 (.tmp 48) (.tmp 50), none, false⟩,
   ⟨some 53, .load 39 (.tmp 52), none, false⟩,
   ⟨some 11, .alloc 39, none, false⟩,
   ⟨none, .store 39 (.tmp 11) (.tmp 53), none, false⟩])
 (.seq (.reg [⟨some 54, .load 31 (.tmp 7), none, false⟩,
   ⟨some 55, .fieldAddr 39 (.tmp 11) 2, none, false⟩,
   ⟨some 56, .load 9 (.tmp 55), none, false⟩,
   ⟨some 57, .call { callee := (.value (.tmp 54)), args := #[(.tmp 56)], argTypes := #[9] }, none, false⟩,
   ⟨some 58, .unOp .not 4 (.tmp 57), none, false⟩,
   ⟨some 59, .move (.tmp 58), none, false⟩,
   ⟨some 60, .fieldAddr 39 (.tmp 11) 2, some (59, true), false⟩,
   ⟨some 61, .load 9 (.tmp 60), some (59, true), false⟩,
   ⟨some 62, .binOp .neq 9 (.tmp 61) (.const (.string { data := #[] })) 9, some (59, true), false⟩,
   ⟨some 63, .pick (.tmp 59) (.tmp 62) (.const (.bool false)), none, false⟩,
   ⟨some 64, .move (.tmp 63), none, false⟩,
   ⟨some 65, .fieldAddr 39 (.tmp 11) 1, some (64, false), false⟩,
   ⟨some 66, .load 22 (.tmp 65), some (64, false), false⟩,
   ⟨some 67, .makeFunc (.func 70) #[] #[(.tmp 7)], some (64, false), false⟩,
   ⟨some 68, .call { callee := (.value (.func 65)), args := #[(.tmp 66), (.tmp 67)], argTypes := #[22, 31] }, some (64, false), false⟩,
   ⟨some 69, .pick (.tmp 64) (.const (.bool true)) (.tmp 68), none, false⟩])
 (.cond (.tmp 69)
 (.seq (.reg [⟨some 4, .assign (.const (.int .i64 65)), none, false⟩])
 (.ret))
 (.skip)))))
 (.reg [⟨some 70, .binOp .add 3 (.tmp 50) (.const (.int .i64 1)) 3, none, false⟩,
   ⟨some 50, .move (.tmp 70), none, false⟩])))))))
 (.seq (.reg [⟨some 71, .makeMap 110 none, none, false⟩,
   ⟨some 72, .makeMap 110 none, none, false⟩,
   ⟨some 12, .alloc 110, none, false⟩,
   ⟨some 13, .alloc 110, none, false⟩,
   ⟨none, .store 110 (.tmp 12) (.tmp 71), none, false⟩,
   ⟨none, .store 110 (.tmp 13) (.tmp 72), none, false⟩])
 (.seq (.seq (.reg [⟨some 73, .load 25 (.tmp 2), none, false⟩,
   ⟨some 74, .fieldAddr 65 (.tmp 3) 0, none, false⟩,
   ⟨some 75, .load 9 (.tmp 74), none, false⟩,
   ⟨some 76, .makeFunc (.func 71) #[] #[(.tmp 12), (.tmp 13)], none, false⟩,
   ⟨some 77, .call { callee := (.value (.func 63)), args := #[(.tmp 73), (.tmp 75), (.tmp 76)], argTypes := #[25, 9, 69] }, none, false⟩])
 (.cond (.tmp 77)
 (.seq (.reg [⟨some 4, .assign (.const (.int .i64 66)), none, false⟩])
 (.ret))
 (.skip)))
 (.seq (.seq (.reg [⟨some 78, .fieldAddr 65 (.tmp 3) 4, none, false⟩,
   ⟨some 79, .load 4 (.tmp 78), none, false⟩])
 (.cond (.tmp 79)
 (.seq (.reg [⟨some 4, .assign (.const (.int .i64 0)), none, false⟩])
 (.ret))
 (.skip)))
 (.seq (.seq (.reg [⟨some 80, .load 110 (.tmp 13), none, false⟩,
   ⟨some 81, .range 110 (.tmp 80), none, false⟩])
 (.block 6
 (.loop [2, 3, 81]
 (.seq (.regm [⟨some 82, .next (.tmp 81) false, none, false⟩,
   ⟨some 83, .extract (.tmp 82) 0, none, false⟩])
 (.seq (.cond (.tmp 83)
 (.skip)
 (.exit 6))
 (.block 7
 (.seq (.reg [⟨some 84, .entry (.tmp 81), none, false⟩,
   ⟨some 85, .extract (.tmp 84) 0, none, false⟩,
   ⟨some 14, .assign (.tmp 85), none, false⟩])
 (.seq (.reg [⟨some 87, .load 25 (.tmp 2), none, false⟩,
   ⟨some 88, .fieldAddr 65 (.tmp 3) 0, none, false⟩,
   ⟨some 89, .load 9 (.tmp 88), none, false⟩,
   ⟨some 90, .move (.tmp 14), none, false⟩,
   ⟨some 91, .call { callee := (.value (.func 75)), args := #[(.tmp 87), (.tmp 89), (.tmp 90)], argTypes := #[25, 9, 9] }, none, false⟩,
   ⟨some 86, .move (.tmp 91), none, false⟩,
   ⟨some 92, .extract (.tmp 86) 0, none, false⟩,
   ⟨some 93, .extract (.tmp 86) 1, none, false⟩,
   ⟨some 94, .extract (.tmp 86) 2, none, false⟩,
   ⟨some 16, .alloc 39, none, false⟩,
   ⟨some 15, .assign (.tmp 92), none, false⟩,
   ⟨none, .store 39 (.tmp 16) (.tmp 93), none, false⟩,
   ⟨some 17, .assign (.tmp 94), none, false⟩])
 (.seq (.reg [⟨some 95, .move (.tmp 17), none, false⟩,
   ⟨some 96, .unOp .not 4 (.tmp 95), none, false⟩,
   ⟨some 97, .move (.tmp 96), none, false⟩,
   ⟨some 98, .fieldAddr 39 (.tmp 16) 3, some (97, false), false⟩,
   ⟨some 99, .load 4 (.tmp 98), some (97, false), false⟩,
   ⟨some 100, .pick (.tmp 97) (.const (.bool true)) (.tmp 99), none, false⟩])
 (.cond (.tmp 100)
 (.seq (.reg [⟨some 4, .assign (.const (.int .i64 67)), none, false⟩])
 (.ret))
 (.skip)))))))))))
 (.seq (.reg [⟨some 4, .assign (.const (.int .i64 0)), none, false⟩])
 (.ret))))))))))
def fr38 : FR := ⟨101, [.tmp 4], cc38⟩
theorem fnis38 : FnIs Tryz.prog 38 fr38 := ⟨Tryz.f38, _, [[2, 3, 19, 20, 21], [2, 3, 7, 35, 36, 37], [2, 3, 7, 48, 49, 50], [2, 3, 81]], [], Tryz.func38, rfl, by kernel_rfl, by kernel_rfl, by kernel_rfl, by kernel_rfl⟩
/-- function 39 -/
def cc39 : CC :=
 .seq (.reg [⟨some 0, .assign (.const (.slice none 0 0)), none, false⟩])
 (.seq (.reg [⟨some 4, .build 65 #[(0, (.const (.string { data := #[79, 98, 106, 101, 99, 116] })))], none, false⟩,
   ⟨some 5, .build 72 #[(0, (.const (.string { data := #[119, 104, 97, 116] }))), (1, (.const (.string { data := #[116, 101, 120, 116] })))], none, false⟩,
   ⟨some 6, .buildSlice 62 1 #[(0, (.tmp 5))], none, false⟩,
   ⟨some 7, .build 65 #[(0, (.const (.string { data := #[70, 97, 117, 108, 116] }))), (1, (.const (.string { data := #[79, 98, 106, 101, 99, 116] }))), (6, (.tmp 6))], none, false⟩,
   ⟨some 8, .buildSlice 26 2 #[(0, (.tmp 4)), (1, (.tmp 7))], none, false⟩,
   ⟨some 1, .assign (.tmp 8), none, false⟩])
 (.seq (.reg [⟨some 9, .buildSlice 22 6 #[(0, (.const (.string { data := #[78, 117, 108, 108, 70, 97, 117, 108, 116] }))), (1, (.const (.string { data := #[73, 110, 100, 101, 120, 70, 97, 117, 108, 116] }))), (2, (.const (.string { data := #[67, 97, 115, 116, 70, 97, 117, 108, 116] }))), (3, (.const (.string { data := #[90, 101, 114, 111, 70, 97, 117, 108, 116] }))), (4, (.const (.string { data := #[82, 111, 111, 109, 70, 97, 117, 108, 116] }))), (5, (.const (.string { data := #[67, 97, 108, 108, 70, 97, 117, 108, 116] })))], none, false⟩,
   ⟨some 2, .assign (.tmp 9), none, false⟩])
 (.seq (.seq (.reg [⟨some 3, .assign (.const (.int .i64 0)), none, false⟩])
 (.block 0
 (.loop [1, 2, 3]
 (.seq (.seq (.reg [⟨some 10, .move (.tmp 3), none, false⟩,
   ⟨some 11, .move (.tmp 2), none, false⟩,
   ⟨some 12, .call { callee := (.builtin .len), args := #[(.tmp 11)], argTypes := #[22] }, none, false⟩,
   ⟨some 13, .binOp .lss 3 (.tmp 10) (.tmp 12) 3, none, false⟩])
 (.cond (.tmp 13)
 (.skip)
 (.exit 0)))
 (.seq (.block 1
 (.reg [⟨some 16, .move (.tmp 1), none, false⟩,
   ⟨some 17, .move (.tmp 2), none, false⟩,
   ⟨some 18, .move (.tmp 3), none, false⟩,
   ⟨some 19, .indexAddr 22 (.tmp 17) (.tmp 18), none, false⟩,
   ⟨some 20, .load 9 (.tmp 19), none, false⟩,
   ⟨some 21, .build 65 #[(0, (.tmp 20)), (1, (.const (.string { data := #[70, 97, 117, 108, 116] }))), (5, (.const (.bool true)))], none, false⟩,
   ⟨some 22, .buildSlice 26 1 #[(0, (.tmp 21))], none, false⟩,
   ⟨some 23, .call { callee := (.builtin .append), args := #[(.tmp 16), (.tmp 22)], argTypes := #[26, 26] }, none, false⟩,
   ⟨some 1, .assign (.tmp 23), none, false⟩]))
 (.reg [⟨some 14, .move (.tmp 3), none, false⟩,
   ⟨some 15, .binOp .add 3 (.tmp 14) (.const (.int .i64 1)) 3, none, false⟩,
   ⟨some 3, .assign (.tmp 15), none, false⟩]))))))
 (.seq (.reg [⟨some 24, .move (.tmp 1), none, false⟩,
   ⟨some 0, .assign (.tmp 24), none, false⟩])
 (.ret)))))
def fr39 : FR := ⟨25, [.tmp 0], cc39⟩
theorem fnis39 : FnIs Tryz.prog 39 fr39 := ⟨Tryz.f39, _, [[1, 2, 3]], [], Tryz.func39, rfl, by kernel_rfl, by kernel_rfl, by kernel_rfl, by kernel_rfl⟩
/-- function 40 -/
def cc40 : CC :=
 .seq (.reg [⟨some 1, .box 65 (.tmp 0), none, false⟩,
   ⟨some 2, .assign (.const (.int .i64 0)), none, false⟩])
 (.seq (.seq (.reg [⟨some 3, .load 65 (.tmp 1), none, false⟩,
   ⟨some 4, .call { callee := (.value (.func 76)), args := #[(.tmp 3)], argTypes := #[65] }, none, false⟩])
 (.cond (.tmp 4)
 (.seq (.reg [⟨some 2, .assign (.const (.int .i64 51)), none, false⟩])
 (.ret))
 (.skip)))
 (.seq (.seq (.reg [⟨some 5, .load 65 (.tmp 1), none, false⟩,
   ⟨some 6, .call { callee := (.value (.func 77)), args := #[(.tmp 5)], argTypes := #[65] }, none, false⟩,
   ⟨some 7, .unOp .not 4 (.tmp 6), none, false⟩])
 (.cond (.tmp 7)
 (.seq (.reg [⟨some 2, .assign (.const (.int .i64 50)), none, false⟩])
 (.ret))
 (.skip)))
 (.seq (.reg [⟨some 2, .assign (.const (.int .i64 0)), none, false⟩])
 (.ret))))
def fr40 : FR := ⟨8, [.tmp 2], cc40⟩
theorem fnis40 : FnIs Tryz.prog 40 fr40 := ⟨Tryz.f40, _, [], [], Tryz.func40, rfl, by kernel_rfl, by kernel_rfl, by kernel_rfl, by kernel_rfl⟩
/-- function 41 -/
def cc41 : CC :=
 .seq (.reg [⟨some 4, .assign (.const (.int .i64 0)), none, false⟩])
 (.seq (.seq (.reg [⟨some 5, .assign (.const (.int .i64 0)), none, false⟩])
 (.block 0
 (.loop [0, 1, 5]
 (.seq (.seq (.reg [⟨some 6, .move (.tmp 5), none, false⟩,
   ⟨some 7, .move (.tmp 0), none, false⟩,
   ⟨some 8, .call { callee := (.builtin .len), args := #[(.tmp 7)], argTypes := #[26] }, none, false⟩,
   ⟨some 9, .binOp .lss 3 (.tmp 6) (.tmp 8) 3, none, false⟩])
 (.cond (.tmp 9)
 (.skip)
 (.exit 0)))
 (.seq (.block 1
 (.seq (.reg [⟨some 12, .move (.tmp 0), none, false⟩,
   ⟨some 13, .move (.tmp 5), none, false⟩,
   ⟨some 14, .indexAddr 26 (.tmp 12) (.tmp 13), none, false⟩,
   ⟨some 15, .fieldAddr 65 (.tmp 14) 0, none, false⟩,
   ⟨some 16, .load 9 (.tmp 15), none, false⟩,
   ⟨some 17, .move (.tmp 1), none, false⟩,
   ⟨some 18, .binOp .eql 9 (.tmp 16) (.tmp 17) 9, none, false⟩])
 (.cond (.tmp 18)
 (.seq (.reg [⟨some 19, .move (.tmp 5), none, false⟩,
   ⟨some 4, .assign (.tmp 19), none, false⟩])
 (.ret))
 (.skip))))
 (.reg [⟨some 10, .move (.tmp 5), none, false⟩,
   ⟨some 11, .binOp .add 3 (.tmp 10) (.const (.int .i64 1)) 3, none, false⟩,
   ⟨some 5, .assign (.tmp 11), none, false⟩]))))))
 (.seq (.reg [⟨some 4, .assign (.const (.int .i64 (-1))), none, false⟩])
 (.ret)))
def fr41 : FR := ⟨20, [.tmp 4], cc41⟩
theorem fnis41 : FnIs Tryz.prog 41 fr41 := ⟨Tryz.f41, _, [[0, 1, 5]], [], Tryz.func41, rfl, by kernel_rfl, by kernel_rfl, by kernel_rfl, by kernel_rfl⟩
/-- function 42 -/
def cc42 : CC :=
 .seq (.reg [⟨some 3, .box 65 (.tmp 1), none, false⟩,
   ⟨some 4, .assign (.const (.int .i64 0)), none, false⟩])
 (.seq (.reg [⟨some 8, .move (.tmp 0), none, false⟩,
   ⟨some 9, .fieldAddr 65 (.tmp 3) 1, none, false⟩,
   ⟨some 10, .load 9 (.tmp 9), none, false⟩,
   ⟨some 11, .call { callee := (.value (.func 41)), args := #[(.tmp 8), (.tmp 10)], argTypes := #[26, 9] }, none, false⟩,
   ⟨some 5, .assign (.tmp 11), none, false⟩])
 (.seq (.seq (.reg [⟨some 12, .move (.tmp 5), none, false⟩,
   ⟨some 13, .binOp .lss 3 (.tmp 12) (.const (.int .i64 0)) 3, none, false⟩,
   ⟨some 14, .move (.tmp 13), none, false⟩,
   ⟨some 15, .move (.tmp 0), some (14, false), false⟩,
   ⟨some 16, .move (.tmp 5), some (14, false), false⟩,
   ⟨some 17, .indexAddr 26 (.tmp 15) (.tmp 16), some (14, false), false⟩,
   ⟨some 18, .fieldAddr 65 (.tmp 17) 3, some (14, false), false⟩,
   ⟨some 19, .load 4 (.tmp 18), some (14, false), false⟩,
   ⟨some 20, .pick (.tmp 14) (.const (.bool true)) (.tmp 19), none, false⟩,
   ⟨some 21, .move (.tmp 20), none, false⟩,
   ⟨some 22, .move (.tmp 0), some (21, false), false⟩,
   ⟨some 23, .move (.tmp 5), some (21, false), false⟩,
   ⟨some 24, .indexAddr 26 (.tmp 22) (.tmp 23), some (21, false), false⟩,
   ⟨some 25, .fieldAddr 65 (.tmp 24) 5, some (21, false), false⟩,
   ⟨some 26, .load 4 (.tmp 25), some (21, false), false⟩,
   ⟨some 27, .pick (.tmp 21) (.const (.bool true)) (.tmp 26), none, false⟩])
 (.cond (.tmp 27)
 (.seq (.reg [⟨some 4, .assign (.const (.int .i64 61)), none, false⟩])
 (.ret))
 (.skip)))
 (.seq (.seq (.reg [⟨some 6, .assign (.const (.int .i64 0)), none, false⟩])
 (.block 0
 (.loop [0, 3, 6]
 (.seq (.seq (.reg [⟨some 28, .move (.tmp 6), none, false⟩,
   ⟨some 29, .fieldAddr 65 (.tmp 3) 2, none, false⟩,
   ⟨some 30, .load 22 (.tmp 29), none, false⟩,
   ⟨some 31, .call { callee := (.builtin .len), args := #[(.tmp 30)], argTypes := #[22] }, none, false⟩,
   ⟨some 32, .binOp .lss 3 (.tmp 28) (.tmp 31) 3, none, false⟩])
 (.cond (.tmp 32)
 (.skip)
 (.exit 0)))
 (.seq (.block 1
 (.seq (.reg [⟨some 35, .move (.tmp 0), none, false⟩,
   ⟨some 36, .fieldAddr 65 (.tmp 3) 2, none, false⟩,
   ⟨some 37, .load 22 (.tmp 36), none, false⟩,
   ⟨some 38, .move (.tmp 6), none, false⟩,
   ⟨some 39, .indexAddr 22 (.tmp 37) (.tmp 38), none, false⟩,
   ⟨some 40, .load 9 (.tmp 39), none, false⟩,
   ⟨some 41, .call { callee := (.value (.func 41)), args := #[(.tmp 35), (.tmp 40)], argTypes := #[26, 9] }, none, false⟩,
   ⟨some 7, .assign (.tmp 41), none, false⟩])
 (.seq (.reg [⟨some 42, .move (.tmp 7), none, false⟩,
   ⟨some 43, .binOp .lss 3 (.tmp 42) (.const (.int .i64 0)) 3, none, false⟩,
   ⟨some 44, .move (.tmp 43), none, false⟩,
   ⟨some 45, .move (.tmp 0), some (44, false), false⟩,
   ⟨some 46, .move (.tmp 7), some (44, false), false⟩,
   ⟨some 47, .indexAddr 26 (.tmp 45) (.tmp 46), some (44, false), false⟩,
   ⟨some 48, .fieldAddr 65 (.tmp 47) 3, some (44, false), false⟩,
   ⟨some 49, .load 4 (.tmp 48), some (44, false), false⟩,
   ⟨some 50, .unOp .not 4 (.tmp 49), some (44, false), false⟩,
   ⟨some 51, .pick (.tmp 44) (.const (.bool true)) (.tmp 50), none, false⟩])
 (.cond (.tmp 51)
 (.seq (.reg [⟨some 4, .assign (.const (.int .i64 62)), none, false⟩])
 (.ret))
 (.skip)))))
 (.reg [⟨some 33, .move (.tmp 6), none, false⟩,
   ⟨some 34, .binOp .add 3 (.tmp 33) (.const (.int .i64 1)) 3, none, false⟩,
   ⟨some 6, .assign (.tmp 34), none, false⟩]))))))
 (.seq (.reg [⟨some 4, .assign (.const (.int .i64 0)), none, false⟩])
 (.ret)))))
def fr42 : FR := ⟨52, [.tmp 4], cc42⟩
theorem fnis42 : FnIs Tryz.prog 42 fr42 := ⟨Tryz.f42, _, [[0, 3, 6]], [], Tryz.func42, rfl, by kernel_rfl, by kernel_rfl, by kernel_rfl, by kernel_rfl⟩
/-- function 43 -/
def cc43 : CC :=
 .seq (.reg [⟨some 2, .assign (.const (.slice none 0 0)), none, false⟩])
 (.seq (.reg [⟨some 12, .buildSlice 75 0 #[], none, false⟩,
   ⟨some 3, .assign (.tmp 12), none, false⟩])
 (.seq (.seq (.reg [⟨some 4, .assign (.const (.int .i64 0)), none, false⟩])
 (.block 0
 (.loop [0, 3, 4]
 (.seq (.seq (.reg [⟨some 13, .move (.tmp 4), none, false⟩,
   ⟨some 14, .move (.tmp 0), none, false⟩,
   ⟨some 15, .call { callee := (.builtin .len), args := #[(.tmp 14)], argTypes := #[26] }, none, false⟩,
   ⟨some 16, .binOp .lss 3 (.tmp 13) (.tmp 15) 3, none, false⟩])
 (.cond (.tmp 16)
 (.skip)
 (.exit 0)))
 (.seq (.block 1
 (.seq (.reg [⟨some 19, .move (.tmp 0), none, false⟩,
   ⟨some 20, .call { callee := (.builtin .len), args := #[(.tmp 19)], argTypes := #[26] }, none, false⟩,
   ⟨some 21, .makeSlice 77 (.tmp 20) (.tmp 20), none, false⟩,
   ⟨some 5, .assign (.tmp 21), none, false⟩])
 (.seq (.reg [⟨some 22, .move (.tmp 0), none, false⟩,
   ⟨some 23, .move (.tmp 4), none, false⟩,
   ⟨some 24, .indexAddr 26 (.tmp 22) (.tmp 23), none, false⟩,
   ⟨some 25, .fieldAddr 65 (.tmp 24) 1, none, false⟩,
   ⟨some 26, .load 9 (.tmp 25), none, false⟩,
   ⟨some 27, .buildSlice 22 1 #[(0, (.tmp 26))], none, false⟩,
   ⟨some 28, .move (.tmp 0), none, false⟩,
   ⟨some 29, .move (.tmp 4), none, false⟩,
   ⟨some 30, .indexAddr 26 (.tmp 28) (.tmp 29), none, false⟩,
   ⟨some 31, .fieldAddr 65 (.tmp 30) 2, none, false⟩,
   ⟨some 32, .load 22 (.tmp 31), none, false⟩,
   ⟨some 33, .call { callee := (.builtin .append), args := #[(.tmp 27), (.tmp 32)], argTypes := #[22, 22] }, none, false⟩,
   ⟨some 6, .assign (.tmp 33), none, false⟩])
 (.seq (.seq (.reg [⟨some 7, .assign (.const (.int .i64 0)), none, false⟩])
 (.block 2
 (.loop [0, 3, 4, 5, 6, 7]
 (.seq (.seq (.reg [⟨some 34, .move (.tmp 7), none, false⟩,
   ⟨some 35, .move (.tmp 6), none, false⟩,
   ⟨some 36, .call { callee := (.builtin .len), args := #[(.tmp 35)], argTypes := #[22] }, none, false⟩,
   ⟨some 37, .binOp .lss 3 (.tmp 34) (.tmp 36) 3, none, false⟩])
 (.cond (.tmp 37)
 (.skip)
 (.exit 2)))
 (.seq (.block 3
 (.seq (.reg [⟨some 40, .move (.tmp 0), none, false⟩,
   ⟨some 41, .move (.tmp 6), none, false⟩,
   ⟨some 42, .move (.tmp 7), none, false⟩,
   ⟨some 43, .indexAddr 22 (.tmp 41) (.tmp 42), none, false⟩,
   ⟨some 44, .load 9 (.tmp 43), none, false⟩,
   ⟨some 45, .call { callee := (.value (.func 41)), args := #[(.tmp 40), (.tmp 44)], argTypes := #[26, 9] }, none, false⟩,
   ⟨some 8, .assign (.tmp 45), none, false⟩])
 (.seq (.reg [⟨some 46, .move (.tmp 8), none, false⟩,
   ⟨some 47, .binOp .geq 3 (.tmp 46) (.const (.int .i64 0)) 3, none, false⟩])
 (.cond (.tmp 47)
 (.reg [⟨some 48, .move (.tmp 5), none, false⟩,
   ⟨some 49, .move (.tmp 8), none, false⟩,
   ⟨some 50, .indexAddr 77 (.tmp 48) (.tmp 49), none, false⟩,
   ⟨none, .store 4 (.tmp 50) (.const (.bool true)), none, false⟩])
 (.skip)))))
 (.reg [⟨some 38, .move (.tmp 7), none, false⟩,
   ⟨some 39, .binOp .add 3 (.tmp 38) (.const (.int .i64 1)) 3, none, false⟩,
   ⟨some 7, .assign (.tmp 39), none, false⟩]))))))
 (.reg [⟨some 51, .move (.tmp 3), none, false⟩,
   ⟨some 52, .move (.tmp 5), none, false⟩,
   ⟨some 53, .buildSlice 75 1 #[(0, (.tmp 52))], none, false⟩,
   ⟨some 54, .call { callee := (.builtin .append), args := #[(.tmp 51), (.tmp 53)], argTypes := #[75, 75] }, none, false⟩,
   ⟨some 3, .assign (.tmp 54), none, false⟩])))))
 (.reg [⟨some 17, .move (.tmp 4), none, false⟩,
   ⟨some 18, .binOp .add 3 (.tmp 17) (.const (.int .i64 1)) 3, none, false⟩,
   ⟨some 4, .assign (.tmp 18), none, false⟩]))))))
 (.seq (.seq (.reg [⟨some 9, .assign (.const (.int .i64 0)), none, false⟩])
 (.block 4
 (.loop [0, 3, 9]
 (.seq (.seq (.reg [⟨some 55, .move (.tmp 9), none, false⟩,
   ⟨some 56, .move (.tmp 0), none, false⟩,
   ⟨some 57, .call { callee := (.builtin .len), args := #[(.tmp 56)], argTypes := #[26] }, none, false⟩,
   ⟨some 58, .binOp .lss 3 (.tmp 55) (.tmp 57) 3, none, false⟩])
 (.cond (.tmp 58)
 (.skip)
 (.exit 4)))
 (.seq (.block 5
 (.seq (.reg [⟨some 10, .assign (.const (.int .i64 0)), none, false⟩])
 (.block 6
 (.loop [0, 3, 9, 10]
 (.seq (.seq (.reg [⟨some 61, .move (.tmp 10), none, false⟩,
   ⟨some 62, .move (.tmp 0), none, false⟩,
   ⟨some 63, .call { callee := (.builtin .len), args := #[(.tmp 62)], argTypes := #[26] }, none, false⟩,
   ⟨some 64, .binOp .lss 3 (.tmp 61) (.tmp 63) 3, none, false⟩])
 (.cond (.tmp 64)
 (.skip)
 (.exit 6)))
 (.seq (.block 7
 (.seq (.reg [⟨some 11, .assign (.const (.int .i64 0)), none, false⟩])
 (.block 8
 (.loop [0, 3, 9, 10, 11]
 (.seq (.seq (.reg [⟨some 67, .move (.tmp 11), none, false⟩,
   ⟨some 68, .move (.tmp 0), none, false⟩,
   ⟨some 69, .call { callee := (.builtin .len), args := #[(.tmp 68)], argTypes := #[26] }, none, false⟩,
   ⟨some 70, .binOp .lss 3 (.tmp 67) (.tmp 69) 3, none, false⟩])
 (.cond (.tmp 70)
 (.skip)
 (.exit 8)))
 (.seq (.block 9
 (.reg [⟨some 73, .move (.tmp 3), none, false⟩,
   ⟨some 74, .move (.tmp 10), none, false⟩,
   ⟨some 75, .indexAddr 75 (.tmp 73) (.tmp 74), none, false⟩,
   ⟨some 76, .load 77 (.tmp 75), none, false⟩,
   ⟨some 77, .move (.tmp 11), none, false⟩,
   ⟨some 78, .move (.tmp 3), none, false⟩,
   ⟨some 79, .move (.tmp 10), none, false⟩,
   ⟨some 80, .indexAddr 75 (.tmp 78) (.tmp 79), none, false⟩,
   ⟨some 81, .load 77 (.tmp 80), none, false⟩,
   ⟨some 82, .move (.tmp 11), none, false⟩,
   ⟨some 83, .indexAddr 77 (.tmp 81) (.tmp 82), none, false⟩,
   ⟨some 84, .load 4 (.tmp 83), none, false⟩,
   ⟨some 85, .move (.tmp 84), none, false⟩,
   ⟨some 86, .move (.tmp 3), some (85, false), false⟩,
   ⟨some 87, .move (.tmp 10), some (85, false), false⟩,
   ⟨some 88, .indexAddr 75 (.tmp 86) (.tmp 87), some (85, false), false⟩,
   ⟨some 89, .load 77 (.tmp 88), some (85, false), false⟩,
   ⟨some 90, .move (.tmp 9), some (85, false), false⟩,
   ⟨some 91, .indexAddr 77 (.tmp 89) (.tmp 90), some (85, false), false⟩,
   ⟨some 92, .load 4 (.tmp 91), some (85, false), false⟩,
   ⟨some 93, .move (.tmp 92), some (85, false), false⟩,
   ⟨some 94, .move (.tmp 3), some (93, true), false⟩,
   ⟨some 95, .move (.tmp 9), some (93, true), false⟩,
   ⟨some 96, .indexAddr 75 (.tmp 94) (.tmp 95), some (93, true), false⟩,
   ⟨some 97, .load 77 (.tmp 96), some (93, true), false⟩,
   ⟨some 98, .move (.tmp 11), some (93, true), false⟩,
   ⟨some 99, .indexAddr 77 (.tmp 97) (.tmp 98), some (93, true), false⟩,
   ⟨some 100, .load 4 (.tmp 99), some (93, true), false⟩,
   ⟨some 101, .pick (.tmp 93) (.tmp 100) (.const (.bool false)), some (85, false), false⟩,
   ⟨some 102, .pick (.tmp 85) (.const (.bool true)) (.tmp 101), none, false⟩,
   ⟨some 103, .indexAddr 77 (.tmp 76) (.tmp 77), none, false⟩,
   ⟨none, .store 4 (.tmp 103) (.tmp 102), none, false⟩]))
 (.reg [⟨some 71, .move (.tmp 11), none, false⟩,
   ⟨some 72, .binOp .add 3 (.tmp 71) (.const (.int .i64 1)) 3, none, false⟩,
   ⟨some 11, .assign (.tmp 72), none, false⟩])))))))
 (.reg [⟨some 65, .move (.tmp 10), none, false⟩,
   ⟨some 66, .binOp .add 3 (.tmp 65) (.const (.int .i64 1)) 3, none, false⟩,
   ⟨some 10, .assign (.tmp 66), none, false⟩])))))))
 (.reg [⟨some 59, .move (.tmp 9), none, false⟩,
   ⟨some 60, .binOp .add 3 (.tmp 59) (.const (.int .i64 1)) 3, none, false⟩,
   ⟨some 9, .assign (.tmp 60), none, false⟩]))))))
 (.seq (.reg [⟨some 104, .move (.tmp 3), none, false⟩,
   ⟨some 2, .assign (.tmp 104), none, false⟩])
 (.ret)))))
def fr43 : FR := ⟨105, [.tmp 2], cc43⟩
theorem fnis43 : FnIs Tryz.prog 43 fr43 := ⟨Tryz.f43, _, [[0, 3, 4], [0, 3, 4, 5, 6, 7], [0, 3, 9], [0, 3, 9, 10], [0, 3, 9, 10, 11]], [], Tryz.func43, rfl, by kernel_rfl, by kernel_rfl, by kernel_rfl, by kernel_rfl⟩
/-- function 44 -/
def cc44 : CC :=
 .seq (.reg [⟨some 8, .assign (.const (.slice none 0 0)), none, false⟩])
 (.seq (.seq (.reg [⟨some 12, .move (.tmp 3), none, false⟩,
   ⟨some 13, .move (.tmp 2), none, false⟩,
   ⟨some 14, .binOp .lss 3 (.tmp 12) (.tmp 13) 3, none, false⟩])
 (.cond (.tmp 14)
 (.seq (.reg [⟨some 15, .move (.tmp 1), none, false⟩,
   ⟨some 8, .assign (.tmp 15), none, false⟩])
 (.ret))
 (.skip)))
 (.seq (.seq (.reg [⟨some 9, .assign (.const (.int .i64 0)), none, false⟩])
 (.block 0
 (.loop [0, 1, 2, 3, 9]
 (.seq (.seq (.reg [⟨some 16, .move (.tmp 9), none, false⟩,
   ⟨some 17, .move (.tmp 1), none, false⟩,
   ⟨some 18, .call { callee := (.builtin .len), args := #[(.tmp 17)], argTypes := #[42] }, none, false⟩,
   ⟨some 19, .binOp .lss 3 (.tmp 16) (.tmp 18) 3, none, false⟩])
 (.cond (.tmp 19)
 (.skip)
 (.exit 0)))
 (.seq (.block 1
 (.seq (.reg [⟨some 22, .move (.tmp 1), none, false⟩,
   ⟨some 23, .move (.tmp 9), none, false⟩,
   ⟨some 24, .indexAddr 42 (.tmp 22) (.tmp 23), none, false⟩,
   ⟨some 25, .load 3 (.tmp 24), none, false⟩,
   ⟨some 26, .move (.tmp 3), none, false⟩,
   ⟨some 27, .binOp .eql 3 (.tmp 25) (.tmp 26) 3, none, false⟩])
 (.cond (.tmp 27)
 (.seq (.reg [⟨some 28, .move (.tmp 1), none, false⟩,
   ⟨some 8, .assign (.tmp 28), none, false⟩])
 (.ret))
 (.skip))))
 (.reg [⟨some 20, .move (.tmp 9), none, false⟩,
   ⟨some 21, .binOp .add 3 (.tmp 20) (.const (.int .i64 1)) 3, none, false⟩,
   ⟨some 9, .assign (.tmp 21), none, false⟩]))))))
 (.seq (.reg [⟨some 29, .move (.tmp 0), none, false⟩,
   ⟨some 30, .move (.tmp 3), none, false⟩,
   ⟨some 31, .indexAddr 26 (.tmp 29) (.tmp 30), none, false⟩,
   ⟨some 32, .fieldAddr 65 (.tmp 31) 1, none, false⟩,
   ⟨some 33, .load 9 (.tmp 32), none, false⟩,
   ⟨some 34, .buildSlice 22 1 #[(0, (.tmp 33))], none, false⟩,
   ⟨some 35, .move (.tmp 0), none, false⟩,
   ⟨some 36, .move (.tmp 3), none, false⟩,
   ⟨some 37, .indexAddr 26 (.tmp 35) (.tmp 36), none, false⟩,
   ⟨some 38, .fieldAddr 65 (.tmp 37) 2, none, false⟩,
   ⟨some 39, .load 22 (.tmp 38), none, false⟩,
   ⟨some 40, .call { callee := (.builtin .append), args := #[(.tmp 34), (.tmp 39)], argTypes := #[22, 22] }, none, false⟩,
   ⟨some 10, .assign (.tmp 40), none, false⟩])
 (.seq (.seq (.reg [⟨some 11, .assign (.const (.int .i64 0)), none, false⟩])
 (.block 2
 (.loop [0, 1, 2, 3, 10, 11]
 (.seq (.seq (.reg [⟨some 41, .move (.tmp 11), none, false⟩,
   ⟨some 42, .move (.tmp 10), none, false⟩,
   ⟨some 43, .call { callee := (.builtin .len), args := #[(.tmp 42)], argTypes := #[22] }, none, false⟩,
   ⟨some 44, .binOp .lss 3 (.tmp 41) (.tmp 43) 3, none, false⟩])
 (.cond (.tmp 44)
 (.skip)
 (.exit 2)))
 (.seq (.block 3
 (.reg [⟨some 47, .move (.tmp 0), none, false⟩,
   ⟨some 48, .move (.tmp 1), none, false⟩,
   ⟨some 49, .move (.tmp 2), none, false⟩,
   ⟨some 50, .move (.tmp 0), none, false⟩,
   ⟨some 51, .move (.tmp 10), none, false⟩,
   ⟨some 52, .move (.tmp 11), none, false⟩,
   ⟨some 53, .indexAddr 22 (.tmp 51) (.tmp 52), none, false⟩,
   ⟨some 54, .load 9 (.tmp 53), none, false⟩,
   ⟨some 55, .call { callee := (.value (.func 41)), args := #[(.tmp 50), (.tmp 54)], argTypes := #[26, 9] }, none, false⟩,
   ⟨some 56, .call { callee := (.value (.func 44)), args := #[(.tmp 47), (.tmp 48), (.tmp 49), (.tmp 55)], argTypes := #[26, 42, 3, 3] }, none, false⟩,
   ⟨some 1, .assign (.tmp 56), none, false⟩]))
 (.reg [⟨some 45, .move (.tmp 11), none, false⟩,
   ⟨some 46, .binOp .add 3 (.tmp 45) (.const (.int .i64 1)) 3, none, false⟩,
   ⟨some 11, .assign (.tmp 46), none, false⟩]))))))
 (.seq (.reg [⟨some 57, .move (.tmp 1), none, false⟩,
   ⟨some 58, .move (.tmp 3), none, false⟩,
   ⟨some 59, .buildSlice 42 1 #[(0, (.tmp 58))], none, false⟩,
   ⟨some 60, .call { callee := (.builtin .append), args := #[(.tmp 57), (.tmp 59)], argTypes := #[42, 42] }, none, false⟩,
   ⟨some 8, .assign (.tmp 60), none, false⟩])
 (.ret))))))
def fr44 : FR := ⟨61, [.tmp 8], cc44⟩
theorem fnis44 : FnIs Tryz.prog 44 fr44 := ⟨Tryz.f44, _, [[0, 1, 2, 3, 9], [0, 1, 2, 3, 10, 11]], [], Tryz.func44, rfl, by kernel_rfl, by kernel_rfl, by kernel_rfl, by kernel_rfl⟩
/-- function 45 -/
def cc45 : CC :=
 .seq (.reg [⟨some 4, .assign (.const (.int .i64 0)), none, false⟩])
 (.seq (.reg [⟨some 20, .move (.tmp 0), none, false⟩,
   ⟨some 21, .move (.tmp 1), none, false⟩,
   ⟨some 22, .indexAddr 26 (.tmp 20) (.tmp 21), none, false⟩,
   ⟨some 23, .load 65 (.tmp 22), none, false⟩,
   ⟨some 5, .alloc 65, none, false⟩,
   ⟨none, .store 65 (.tmp 5) (.tmp 23), none, false⟩])
 (.seq (.seq (.reg [⟨some 6, .assign (.const (.int .i64 0)), none, false⟩])
 (.block 0
 (.loop [0, 1, 5, 6]
 (.seq (.seq (.reg [⟨some 24, .move (.tmp 6), none, false⟩,
   ⟨some 25, .fieldAddr 65 (.tmp 5) 6, none, false⟩,
   ⟨some 26, .load 62 (.tmp 25), none, false⟩,
   ⟨some 27, .call { callee := (.builtin .len), args := #[(.tmp 26)], argTypes := #[62] }, none, false⟩,
   ⟨some 28, .binOp .lss 3 (.tmp 24) (.tmp 27) 3, none, false⟩])
 (.cond (.tmp 28)
 (.skip)
 (.exit 0)))
 (.seq (.block 1
 (.seq (.reg [⟨some 31, .move (.tmp 0), none, false⟩,
   ⟨some 32, .fieldAddr 65 (.tmp 5) 1, none, false⟩,
   ⟨some 33, .load 9 (.tmp 32), none, false⟩,
   ⟨some 34, .fieldAddr 65 (.tmp 5) 6, none, false⟩,
   ⟨some 35, .load 62 (.tmp 34), none, false⟩,
   ⟨some 36, .move (.tmp 6), none, false⟩,
   ⟨some 37, .indexAddr 62 (.tmp 35) (.tmp 36), none, false⟩,
   ⟨some 38, .fieldAddr 72 (.tmp 37) 0, none, false⟩,
   ⟨some 39, .load 9 (.tmp 38), none, false⟩,
   ⟨some 40, .call { callee := (.value (.func 78)), args := #[(.tmp 31), (.tmp 33), (.tmp 39)], argTypes := #[26, 9, 9] }, none, false⟩,
   ⟨some 41, .binOp .geq 3 (.tmp 40) (.const (.int .i64 0)) 3, none, false⟩])
 (.cond (.tmp 41)
 (.seq (.reg [⟨some 4, .assign (.const (.int .i64 64)), none, false⟩])
 (.ret))
 (.skip))))
 (.reg [⟨some 29, .move (.tmp 6), none, false⟩,
   ⟨some 30, .binOp .add 3 (.tmp 29) (.const (.int .i64 1)) 3, none, false⟩,
   ⟨some 6, .assign (.tmp 30), none, false⟩]))))))
 (.seq (.reg [⟨some 42, .buildSlice 22 0 #[], none, false⟩,
   ⟨some 7, .assign (.tmp 42), none, false⟩])
 (.seq (.seq (.reg [⟨some 8, .assign (.const (.int .i64 0)), none, false⟩])
 (.block 2
 (.loop [0, 1, 5, 7, 8]
 (.seq (.seq (.reg [⟨some 43, .move (.tmp 8), none, false⟩,
   ⟨some 44, .fieldAddr 65 (.tmp 5) 6, none, false⟩,
   ⟨some 45, .load 62 (.tmp 44), none, false⟩,
   ⟨some 46, .call { callee := (.builtin .len), args := #[(.tmp 45)], argTypes := #[62] }, none, false⟩,
   ⟨some 47, .binOp .lss 3 (.tmp 43) (.tmp 46) 3, none, false⟩])
 (.cond (.tmp 47)
 (.skip)
 (.exit 2)))
 (.seq (.block 3
 (.reg [⟨some 50, .move (.tmp 7), none, false⟩,
   ⟨some 51, .fieldAddr 65 (.tmp 5) 6, none, false⟩,
   ⟨some 52, .load 62 (.tmp 51), none, false⟩,
   ⟨some 53, .move (.tmp 8), none, false⟩,
   ⟨some 54, .indexAddr 62 (.tmp 52) (.tmp 53), none, false⟩,
   ⟨some 55, .fieldAddr 72 (.tmp 54) 1, none, false⟩,
   ⟨some 56, .load 9 (.tmp 55), none, false⟩,
   ⟨some 57, .buildSlice 22 1 #[(0, (.tmp 56))], none, false⟩,
   ⟨some 58, .call { callee := (.builtin .append), args := #[(.tmp 50), (.tmp 57)], argTypes := #[22, 22] }, none, false⟩,
   ⟨some 7, .assign (.tmp 58), none, false⟩]))
 (.reg [⟨some 48, .move (.tmp 8), none, false⟩,
   ⟨some 49, .binOp .add 3 (.tmp 48) (.const (.int .i64 1)) 3, none, false⟩,
   ⟨some 8, .assign (.tmp 49), none, false⟩]))))))
 (.seq (.seq (.reg [⟨some 9, .assign (.const (.int .i64 0)), none, false⟩])
 (.block 4
 (.loop [0, 1, 5, 7, 9]
 (.seq (.seq (.reg [⟨some 59, .move (.tmp 9), none, false⟩,
   ⟨some 60, .fieldAddr 65 (.tmp 5) 7, none, false⟩,
   ⟨some 61, .load 63 (.tmp 60), none, false⟩,
   ⟨some 62, .call { callee := (.builtin .len), args := #[(.tmp 61)], argTypes := #[63] }, none, false⟩,
   ⟨some 63, .binOp .lss 3 (.tmp 59) (.tmp 62) 3, none, false⟩])
 (.cond (.tmp 63)
 (.skip)
 (.exit 4)))
 (.seq (.block 5
 (.seq (.reg [⟨some 66, .move (.tmp 7), none, false⟩,
   ⟨some 67, .fieldAddr 65 (.tmp 5) 7, none, false⟩,
   ⟨some 68, .load 63 (.tmp 67), none, false⟩,
   ⟨some 69, .move (.tmp 9), none, false⟩,
   ⟨some 70, .indexAddr 63 (.tmp 68) (.tmp 69), none, false⟩,
   ⟨some 71, .fieldAddr 39 (.tmp 70) 1, none, false⟩,
   ⟨some 72, .load 22 (.tmp 71), none, false⟩,
   ⟨some 73, .call { callee := (.builtin .append), args := #[(.tmp 66), (.tmp 72)], argTypes := #[22, 22] }, none, false⟩,
   ⟨some 7, .assign (.tmp 73), none, false⟩])
 (.seq (.reg [⟨some 74, .fieldAddr 65 (.tmp 5) 7, none, false⟩,
   ⟨some 75, .load 63 (.tmp 74), none, false⟩,
   ⟨some 76, .move (.tmp 9), none, false⟩,
   ⟨some 77, .indexAddr 63 (.tmp 75) (.tmp 76), none, false⟩,
   ⟨some 78, .fieldAddr 39 (.tmp 77) 2, none, false⟩,
   ⟨some 79, .load 9 (.tmp 78), none, false⟩,
   ⟨some 80, .binOp .neq 9 (.tmp 79) (.const (.string { data := #[] })) 9, none, false⟩])
 (.cond (.tmp 80)
 (.reg [⟨some 81, .move (.tmp 7), none, false⟩,
   ⟨some 82, .fieldAddr 65 (.tmp 5) 7, none, false⟩,
   ⟨some 83, .load 63 (.tmp 82), none, false⟩,
   ⟨some 84, .move (.tmp 9), none, false⟩,
   ⟨some 85, .indexAddr 63 (.tmp 83) (.tmp 84), none, false⟩,
   ⟨some 86, .fieldAddr 39 (.tmp 85) 2, none, false⟩,
   ⟨some 87, .load 9 (.tmp 86), none, false⟩,
   ⟨some 88, .buildSlice 22 1 #[(0, (.tmp 87))], none, false⟩,
   ⟨some 89, .call { callee := (.builtin .append), args := #[(.tmp 81), (.tmp 88)], argTypes := #[22, 22] }, none, false⟩,
   ⟨some 7, .assign (.tmp 89), none, false⟩])
 (.skip)))))
 (.reg [⟨some 64, .move (.tmp 9), none, false⟩,
   ⟨some 65, .binOp .add 3 (.tmp 64) (.const (.int .i64 1)) 3, none, false⟩,
   ⟨some 9, .assign (.tmp 65), none, false⟩]))))))
 (.seq (.seq (.reg [⟨some 10, .assign (.const (.int .i64 0)), none, false⟩])
 (.block 6
 (.loop [0, 1, 5, 7, 10]
 (.seq (.seq (.reg [⟨some 90, .move (.tmp 10), none, false⟩,
   ⟨some 91, .move (.tmp 7), none, false⟩,
   ⟨some 92, .call { callee := (.builtin .len), args := #[(.tmp 91)], argTypes := #[22] }, none, false⟩,
   ⟨some 93, .binOp .lss 3 (.tmp 90) (.tmp 92) 3, none, false⟩])
 (.cond (.tmp 93)
 (.skip)
 (.exit 6)))
 (.seq (.block 7
 (.seq (.reg [⟨some 96, .move (.tmp 0), none, false⟩,
   ⟨some 97, .move (.tmp 7), none, false⟩,
   ⟨some 98, .move (.tmp 10), none, false⟩,
   ⟨some 99, .indexAddr 22 (.tmp 97) (.tmp 98), none, false⟩,
   ⟨some 100, .load 9 (.tmp 99), none, false⟩,
   ⟨some 101, .call { callee := (.value (.func 79)), args := #[(.tmp 96), (.tmp 100)], argTypes := #[26, 9] }, none, false⟩,
   ⟨some 102, .unOp .not 4 (.tmp 101), none, false⟩])
 (.cond (.tmp 102)
 (.seq (.reg [⟨some 4, .assign (.const (.int .i64 65)), none, false⟩])
 (.ret))
 (.skip))))
 (.reg [⟨some 94, .move (.tmp 10), none, false⟩,
   ⟨some 95, .binOp .add 3 (.tmp 94) (.const (.int .i64 1)) 3, none, false⟩,
   ⟨some 10, .assign (.tmp 95), none, false⟩]))))))
 (.seq (.reg [⟨some 103, .move (.tmp 0), none, false⟩,
   ⟨some 104, .call { callee := (.value (.func 43)), args := #[(.tmp 103)], argTypes := #[26] }, none, false⟩,
   ⟨some 11, .assign (.tmp 104), none, false⟩])
 (.seq (.reg [⟨some 105, .buildSlice 63 0 #[], none, false⟩,
   ⟨some 12, .assign (.tmp 105), none, false⟩])
 (.seq (.seq (.reg [⟨some 13, .assign (.const (.int .i64 0)), none, false⟩])
 (.block 8
 (.loop [0, 1, 5, 11, 12, 13]
 (.seq (.seq (.reg [⟨some 106, .move (.tmp 13), none, false⟩,
   ⟨some 107, .move (.tmp 0), none, false⟩,
   ⟨some 108, .call { callee := (.builtin .len), args := #[(.tmp 107)], argTypes := #[26] }, none, false⟩,
   ⟨some 109, .binOp .lss 3 (.tmp 106) (.tmp 108) 3, none, false⟩])
 (.cond (.tmp 109)
 (.skip)
 (.exit 8)))
 (.seq (.block 9
 (.seq (.reg [⟨some 112, .move (.tmp 13), none, false⟩,
   ⟨some 113, .move (.tmp 1), none, false⟩,
   ⟨some 114, .binOp .eql 3 (.tmp 112) (.tmp 113) 3, none, false⟩,
   ⟨some 115, .move (.tmp 114), none, false⟩,
   ⟨some 116, .move (.tmp 11), some (115, false), false⟩,
   ⟨some 117, .move (.tmp 1), some (115, false), false⟩,
   ⟨some 118, .indexAddr 75 (.tmp 116) (.tmp 117), some (115, false), false⟩,
   ⟨some 119, .load 77 (.tmp 118), some (115, false), false⟩,
   ⟨some 120, .move (.tmp 13), some (115, false), false⟩,
   ⟨some 121, .indexAddr 77 (.tmp 119) (.tmp 120), some (115, false), false⟩,
   ⟨some 122, .load 4 (.tmp 121), some (115, false), false⟩,
   ⟨some 123, .pick (.tmp 115) (.const (.bool true)) (.tmp 122), none, false⟩])
 (.cond (.tmp 123)
 (.reg [⟨some 124, .move (.tmp 12), none, false⟩,
   ⟨some 125, .move (.tmp 0), none, false⟩,
   ⟨some 126, .move (.tmp 13), none, false⟩,
   ⟨some 127, .indexAddr 26 (.tmp 125) (.tmp 126), none, false⟩,
   ⟨some 128, .fieldAddr 65 (.tmp 127) 7, none, false⟩,
   ⟨some 129, .load 63 (.tmp 128), none, false⟩,
   ⟨some 130, .call { callee := (.builtin .append), args := #[(.tmp 124), (.tmp 129)], argTypes := #[63, 63] }, none, false⟩,
   ⟨some 12, .assign (.tmp 130), none, false⟩])
 (.skip))))
 (.reg [⟨some 110, .move (.tmp 13), none, false⟩,
   ⟨some 111, .binOp .add 3 (.tmp 110) (.const (.int .i64 1)) 3, none, false⟩,
   ⟨some 13, .assign (.tmp 111), none, false⟩]))))))
 (.seq (.seq (.reg [⟨some 14, .assign (.const (.int .i64 0)), none, false⟩])
 (.block 10
 (.loop [0, 5, 12, 14]
 (.seq (.seq (.reg [⟨some 131, .move (.tmp 14), none, false⟩,
   ⟨some 132, .move (.tmp 12), none, false⟩,
   ⟨some 133, .call { callee := (.builtin .len), args := #[(.tmp 132)], argTypes := #[63] }, none, false⟩,
   ⟨some 134, .binOp .lss 3 (.tmp 131) (.tmp 133) 3, none, false⟩])
 (.cond (.tmp 134)
 (.skip)
 (.exit 10)))
 (.seq (.block 11
 (.seq (.reg [⟨some 15, .assign (.const (.int .i64 0)), none, false⟩])
 (.block 12
 (.loop [0, 5, 12, 14, 15]
 (.seq (.seq (.reg [⟨some 137, .move (.tmp 15), none, false⟩,
   ⟨some 138, .move (.tmp 14), none, false⟩,
   ⟨some 139, .binOp .lss 3 (.tmp 137) (.tmp 138) 3, none, false⟩])
 (.cond (.tmp 139)
 (.skip)
 (.exit 12)))
 (.seq (.block 13
 (.seq (.reg [⟨some 142, .move (.tmp 12), none, false⟩,
   ⟨some 143, .move (.tmp 14), none, false⟩,
   ⟨some 144, .indexAddr 63 (.tmp 142) (.tmp 143), none, false⟩,
   ⟨some 145, .fieldAddr 39 (.tmp 144) 0, none, false⟩,
   ⟨some 146, .load 9 (.tmp 145), none, false⟩,
   ⟨some 147, .move (.tmp 12), none, false⟩,
   ⟨some 148, .move (.tmp 15), none, false⟩,
   ⟨some 149, .indexAddr 63 (.tmp 147) (.tmp 148), none, false⟩,
   ⟨some 150, .fieldAddr 39 (.tmp 149) 0, none, false⟩,
   ⟨some 151, .load 9 (.tmp 150), none, false⟩,
   ⟨some 152, .binOp .eql 9 (.tmp 146) (.tmp 151) 9, none, false⟩,
   ⟨some 153, .move (.tmp 152), none, false⟩,
   ⟨some 154, .move (.tmp 12), some (153, true), false⟩,
   ⟨some 155, .move (.tmp 14), some (153, true), false⟩,
   ⟨some 156, .indexAddr 63 (.tmp 154) (.tmp 155), some (153, true), false⟩,
   ⟨some 157, .load 39 (.tmp 156), some (153, true), false⟩,
   ⟨some 159, .move (.tmp 12), some (153, true), false⟩,
   ⟨some 160, .move (.tmp 15), some (153, true), false⟩,
   ⟨some 161, .indexAddr 63 (.tmp 159) (.tmp 160), some (153, true), false⟩,
   ⟨some 162, .load 39 (.tmp 161), some (153, true), false⟩,
   ⟨some 158, .call { callee := (.value (.func 80)), args := #[(.tmp 157)], argTypes := #[39] }, some (153, true), false⟩,
   ⟨some 162, .load 39 (.tmp 161), some (153, true), true⟩,
   ⟨some 163, .call { callee := (.value (.func 80)), args := #[(.tmp 162)], argTypes := #[39] }, some (153, true), false⟩,
   ⟨some 164, .binOp .neq 9 (.tmp 158) (.tmp 163) 9, some (153, true), false⟩,
   ⟨some 165, .pick (.tmp 153) (.tmp 164) (.const (.bool false)), none, false⟩])
 (.cond (.tmp 165)
 (.seq (.reg [⟨some 4, .assign (.const (.int .i64 66)), none, false⟩])
 (.ret))
 (.skip))))
 (.reg [⟨some 140, .move (.tmp 15), none, false⟩,
   ⟨some 141, .binOp .add 3 (.tmp 140) (.const (.int .i64 1)) 3, none, false⟩,
   ⟨some 15, .assign (.tmp 141), none, false⟩])))))))
 (.reg [⟨some 135, .move (.tmp 14), none, false⟩,
   ⟨some 136, .binOp .add 3 (.tmp 135) (.const (.int .i64 1)) 3, none, false⟩,
   ⟨some 14, .assign (.tmp 136), none, false⟩]))))))
 (.seq (.seq (.reg [⟨some 16, .assign (.const (.int .i64 0)), none, false⟩])
 (.block 14
 (.loop [0, 5, 12, 16]
 (.seq (.seq (.reg [⟨some 166, .move (.tmp 16), none, false⟩,
   ⟨some 167, .move (.tmp 12), none, false⟩,
   ⟨some 168, .call { callee := (.builtin .len), args := #[(.tmp 167)], argTypes := #[63] }, none, false⟩,
   ⟨some 169, .binOp .lss 3 (.tmp 166) (.tmp 168) 3, none, false⟩,
   ⟨some 170, .move (.tmp 169), none, false⟩,
   ⟨some 171, .fieldAddr 65 (.tmp 5) 4, some (170, true), false⟩,
   ⟨some 172, .load 4 (.tmp 171), some (170, true), false⟩,
   ⟨some 173, .unOp .not 4 (.tmp 172), some (170, true), false⟩,
   ⟨some 174, .pick (.tmp 170) (.tmp 173) (.const (.bool false)), none, false⟩])
 (.cond (.tmp 174)
 (.skip)
 (.exit 14)))
 (.seq (.block 15
 (.seq (.reg [⟨some 178, .move (.tmp 0), none, false⟩,
   ⟨some 179, .fieldAddr 65 (.tmp 5) 0, none, false⟩,
   ⟨some 180, .load 9 (.tmp 179), none, false⟩,
   ⟨some 181, .move (.tmp 12), none, false⟩,
   ⟨some 182, .move (.tmp 16), none, false⟩,
   ⟨some 183, .indexAddr 63 (.tmp 181) (.tmp 182), none, false⟩,
   ⟨some 184, .fieldAddr 39 (.tmp 183) 0, none, false⟩,
   ⟨some 185, .load 9 (.tmp 184), none, false⟩,
   ⟨some 18, .alloc 39, none, false⟩,
   ⟨some 186, .call { callee := (.value (.func 81)), args := #[(.tmp 178), (.tmp 180), (.tmp 185)], argTypes := #[26, 9, 9] }, none, false⟩,
   ⟨some 177, .move (.tmp 186), none, false⟩,
   ⟨some 187, .extract (.tmp 177) 0, none, false⟩,
   ⟨some 188, .extract (.tmp 177) 1, none, false⟩,
   ⟨some 189, .extract (.tmp 177) 2, none, false⟩,
   ⟨some 17, .assign (.tmp 187), none, false⟩,
   ⟨none, .store 39 (.tmp 18) (.tmp 188), none, false⟩,
   ⟨some 19, .assign (.tmp 189), none, false⟩])
 (.seq (.reg [⟨some 190, .move (.tmp 19), none, false⟩,
   ⟨some 191, .unOp .not 4 (.tmp 190), none, false⟩,
   ⟨some 192, .move (.tmp 191), none, false⟩,
   ⟨some 193, .fieldAddr 39 (.tmp 18) 3, some (192, false), false⟩,
   ⟨some 194, .load 4 (.tmp 193), some (192, false), false⟩,
   ⟨some 195, .pick (.tmp 192) (.const (.bool true)) (.tmp 194), none, false⟩])
 (.cond (.tmp 195)
 (.seq (.reg [⟨some 4, .assign (.const (.int .i64 67)), none, false⟩])
 (.ret))
 (.skip)))))
 (.reg [⟨some 175, .move (.tmp 16), none, false⟩,
   ⟨some 176, .binOp .add 3 (.tmp 175) (.const (.int .i64 1)) 3, none, false⟩,
   ⟨some 16, .assign (.tmp 176), none, false⟩]))))))
 (.seq (.reg [⟨some 4, .assign (.const (.int .i64 0)), none, false⟩])
 (.ret)))))))))))))
def fr45 : FR := ⟨196, [.tmp 4], cc45⟩
theorem fnis45 : FnIs Tryz.prog 45 fr45 := ⟨Tryz.f45, _, [[0, 1, 5, 6], [0, 1, 5, 7, 8], [0, 1, 5, 7, 9], [0, 1, 5, 7, 10], [0, 1, 5, 11, 12, 13], [0, 5, 12, 14], [0, 5, 12, 14, 15], [0, 5, 12, 16]], [], Tryz.func45, rfl, by kernel_rfl, by kernel_rfl, by kernel_rfl, by kernel_rfl⟩
/-- function 46 -/
def cc46 : CC :=
 .seq (.reg [⟨some 2, .assign (.const (.slice none 0 0)), none, false⟩])
 (.seq (.seq (.reg [⟨some 3, .move (.tmp 0), none, false⟩,
   ⟨some 4, .binOp .eql 22 (.tmp 3) (.const (.slice none 0 0)) 22, none, false⟩])
 (.cond (.tmp 4)
 (.seq (.reg [⟨some 2, .assign (.const (.slice none 0 0)), none, false⟩])
 (.ret))
 (.skip)))
 (.seq (.reg [⟨some 5, .buildSlice 22 0 #[], none, false⟩,
   ⟨some 6, .move (.tmp 0), none, false⟩,
   ⟨some 7, .call { callee := (.builtin .append), args := #[(.tmp 5), (.tmp 6)], argTypes := #[22, 22] }, none, false⟩,
   ⟨some 2, .assign (.tmp 7), none, false⟩])
 (.ret)))
def fr46 : FR := ⟨8, [.tmp 2], cc46⟩
theorem fnis46 : FnIs Tryz.prog 46 fr46 := ⟨Tryz.f46, _, [], [], Tryz.func46, rfl, by kernel_rfl, by kernel_rfl, by kernel_rfl, by kernel_rfl⟩
/-- function 47 -/
def cc47 : CC :=
 .seq (.reg [⟨some 0, .assign (.const (.map none)), none, false⟩])
 (.seq (.reg [⟨some 4, .makeMap 86 none, none, false⟩,
   ⟨some 5, .call { callee := (.value (.func 82)), args := #[(.const (.string { data := #[105, 110, 116] }))], argTypes := #[9] }, none, false⟩,
   ⟨none, .insert 86 (.tmp 4) (.const (.string { data := #[105, 110, 116] })) (.tmp 5), none, false⟩,
   ⟨some 6, .call { callee := (.value (.func 82)), args := #[(.const (.string { data := #[98, 111, 111, 108] }))], argTypes := #[9] }, none, false⟩,
   ⟨none, .insert 86 (.tmp 4) (.const (.string { data := #[116, 114, 117, 101] })) (.tmp 6), none, false⟩,
   ⟨some 7, .call { callee := (.value (.func 82)), args := #[(.const (.string { data := #[98, 111, 111, 108] }))], argTypes := #[9] }, none, false⟩,
   ⟨none, .insert 86 (.tmp 4) (.const (.string { data := #[102, 97, 108, 115, 101] })) (.tmp 7), none, false⟩,
   ⟨some 8, .call { callee := (.value (.func 82)), args := #[(.const (.string { data := #[116, 101, 120, 116] }))], argTypes := #[9] }, none, false⟩,
   ⟨none, .insert 86 (.tmp 4) (.const (.string { data := #[119, 111, 114, 100] })) (.tmp 8), none, false⟩,
   ⟨some 9, .call { callee := (.value (.func 82)), args := #[(.const (.string { data := #[110, 117, 108, 108] }))], argTypes := #[9] }, none, false⟩,
   ⟨none, .insert 86 (.tmp 4) (.const (.string { data := #[110, 117, 108, 108] })) (.tmp 9), none, false⟩,
   ⟨none, .insert 86 (.tmp 4) (.const (.string { data := #[108, 111, 97, 100] })) (.func 83), none, false⟩,
   ⟨none, .insert 86 (.tmp 4) (.const (.string { data := #[115, 116, 111, 114, 101] })) (.func 84), none, false⟩,
   ⟨none, .insert 86 (.tmp 4) (.const (.string { data := #[100, 117, 112] })) (.func 85), none, false⟩,
   ⟨none, .insert 86 (.tmp 4) (.const (.string { data := #[115, 119, 97, 112] })) (.func 86), none, false⟩,
   ⟨none, .insert 86 (.tmp 4) (.const (.string { data := #[112, 111, 112] })) (.func 87), none, false⟩,
   ⟨some 10, .buildSlice 22 1 #[(0, (.const (.string { data := #[105, 110, 116] })))], none, false⟩,
   ⟨some 11, .call { callee := (.value (.func 89)), args := #[(.const (.string { data := #[105, 110, 116] })), (.tmp 10)], argTypes := #[9, 22] }, none, false⟩,
   ⟨none, .insert 86 (.tmp 4) (.const (.string { data := #[110, 101, 103] })) (.tmp 11), none, false⟩,
   ⟨some 12, .buildSlice 22 1 #[(0, (.const (.string { data := #[98, 111, 111, 108] })))], none, false⟩,
   ⟨some 13, .call { callee := (.value (.func 89)), args := #[(.const (.string { data := #[98, 111, 111, 108] })), (.tmp 12)], argTypes := #[9, 22] }, none, false⟩,
   ⟨none, .insert 86 (.tmp 4) (.const (.string { data := #[110, 111, 116] })) (.tmp 13), none, false⟩,
   ⟨some 14, .buildSlice 22 2 #[(0, (.const (.string { data := #[98, 111, 111, 108] }))), (1, (.const (.string { data := #[98, 111, 111, 108] })))], none, false⟩,
   ⟨some 15, .call { callee := (.value (.func 89)), args := #[(.const (.string { data := #[98, 111, 111, 108] })), (.tmp 14)], argTypes := #[9, 22] }, none, false⟩,
   ⟨none, .insert 86 (.tmp 4) (.const (.string { data := #[98, 111, 116, 104] })) (.tmp 15), none, false⟩,
   ⟨some 16, .buildSlice 22 2 #[(0, (.const (.string { data := #[116, 101, 120, 116] }))), (1, (.const (.string { data := #[116, 101, 120, 116] })))], none, false⟩,
   ⟨some 17, .call { callee := (.value (.func 89)), args := #[(.const (.string { data := #[116, 101, 120, 116] })), (.tmp 16)], argTypes := #[9, 22] }, none, false⟩,
   ⟨none, .insert 86 (.tmp 4) (.const (.string { data := #[106, 111, 105, 110] })) (.tmp 17), none, false⟩,
   ⟨none, .insert 86 (.tmp 4) (.const (.string { data := #[108, 101, 115, 115] })) (.func 90), none, false⟩,
   ⟨none, .insert 86 (.tmp 4) (.const (.string { data := #[115, 97, 109, 101] })) (.func 90), none, false⟩,
   ⟨none, .insert 86 (.tmp 4) (.const (.string { data := #[115, 105, 122, 101] })) (.func 91), none, false⟩,
   ⟨none, .insert 86 (.tmp 4) (.const (.string { data := #[106, 117, 109, 112] })) (.func 92), none, false⟩,
   ⟨some 18, .buildSlice 22 1 #[(0, (.const (.string { data := #[98, 111, 111, 108] })))], none, false⟩,
   ⟨some 19, .call { callee := (.value (.func 89)), args := #[(.const (.string { data := #[] })), (.tmp 18)], argTypes := #[9, 22] }, none, false⟩,
   ⟨none, .insert 86 (.tmp 4) (.const (.string { data := #[98, 114, 97, 110, 99, 104] })) (.tmp 19), none, false⟩,
   ⟨none, .insert 86 (.tmp 4) (.const (.string { data := #[110, 101, 119] })) (.func 93), none, false⟩,
   ⟨none, .insert 86 (.tmp 4) (.const (.string { data := #[103, 101, 116] })) (.func 94), none, false⟩,
   ⟨none, .insert 86 (.tmp 4) (.const (.string { data := #[112, 117, 116] })) (.func 95), none, false⟩,
   ⟨none, .insert 86 (.tmp 4) (.const (.string { data := #[99, 97, 108, 108] })) (.func 96), none, false⟩,
   ⟨none, .insert 86 (.tmp 4) (.const (.string { data := #[97, 114, 114, 97, 121] })) (.func 97), none, false⟩,
   ⟨none, .insert 86 (.tmp 4) (.const (.string { data := #[97, 116] })) (.func 98), none, false⟩,
   ⟨none, .insert 86 (.tmp 4) (.const (.string { data := #[115, 101, 116] })) (.func 99), none, false⟩,
   ⟨none, .insert 86 (.tmp 4) (.const (.string { data := #[105, 115] })) (.func 100), none, false⟩,
   ⟨none, .insert 86 (.tmp 4) (.const (.string { data := #[99, 97, 115, 116] })) (.func 101), none, false⟩,
   ⟨none, .insert 86 (.tmp 4) (.const (.string { data := #[114, 101, 116, 117, 114, 110] })) (.func 102), none, false⟩,
   ⟨some 20, .buildSlice 22 1 #[(0, (.const (.string { data := #[70, 97, 117, 108, 116] })))], none, false⟩,
   ⟨some 21, .call { callee := (.value (.func 89)), args := #[(.const (.string { data := #[] })), (.tmp 20)], argTypes := #[9, 22] }, none, false⟩,
   ⟨none, .insert 86 (.tmp 4) (.const (.string { data := #[116, 104, 114, 111, 119] })) (.tmp 21), none, false⟩,
   ⟨some 22, .buildSlice 22 1 #[(0, (.const (.string { data := #[105, 110, 116] })))], none, false⟩,
   ⟨some 23, .call { callee := (.value (.func 89)), args := #[(.const (.string { data := #[] })), (.tmp 22)], argTypes := #[9, 22] }, none, false⟩,
   ⟨none, .insert 86 (.tmp 4) (.const (.string { data := #[111, 117, 116] })) (.tmp 23), none, false⟩,
   ⟨none, .insert 86 (.tmp 4) (.const (.string { data := #[101, 113, 117, 97, 108] })) (.func 103), none, false⟩,
   ⟨some 24, .move (.tmp 4), none, false⟩,
   ⟨some 1, .assign (.tmp 24), none, false⟩])
 (.seq (.seq (.reg [⟨some 25, .build 123 #[(0, (.const (.string { data := #[97, 100, 100] }))), (1, (.const (.string { data := #[115, 117, 98] }))), (2, (.const (.string { data := #[109, 117, 108] }))), (3, (.const (.string { data := #[100, 105, 118] }))), (4, (.const (.string { data := #[114, 101, 109] }))), (5, (.const (.string { data := #[97, 110, 100] }))), (6, (.const (.string { data := #[111, 114] }))), (7, (.const (.string { data := #[120, 111, 114] }))), (8, (.const (.string { data := #[115, 104, 108] }))), (9, (.const (.string { data := #[115, 104, 114] })))], none, false⟩,
   ⟨some 26, .move (.const (.int .i64 0)), none, false⟩])
 (.block 0
 (.loop [1, 25, 26]
 (.seq (.reg [⟨some 27, .binOp .lss 3 (.tmp 26) (.const (.int .i64 10)) 3, none, false⟩])
 (.seq (.cond (.tmp 27)
 (.skip)
 (.exit 0))
 (.seq (.block 1
 (.seq (.reg [⟨some 28, .index 123 (.tmp 25) (.tmp 26), none, false⟩,
   ⟨some 3, .assign (.tmp 28), none, false⟩])
 (.reg [⟨some 29, .move (.tmp 1), none, false⟩,
   ⟨some 30, .move (.tmp 3), none, false⟩,
   ⟨none, .mapUpdate 86 (.tmp 29) (.tmp 30) (.func 104), none, false⟩])))
 (.reg [⟨some 31, .binOp .add 3 (.tmp 26) (.const (.int .i64 1)) 3, none, false⟩,
   ⟨some 26, .move (.tmp 31), none, false⟩])))))))
 (.seq (.reg [⟨some 32, .move (.tmp 1), none, false⟩,
   ⟨some 0, .assign (.tmp 32), none, false⟩])
 (.ret))))
def fr47 : FR := ⟨33, [.tmp 0], cc47⟩
theorem fnis47 : FnIs Tryz.prog 47 fr47 := ⟨Tryz.f47, _, [[1, 25, 26]], [], Tryz.func47, rfl, by kernel_rfl, by kernel_rfl, by kernel_rfl, by kernel_rfl⟩
/-- function 48 -/
def cc48 : CC :=
 .seq (.reg [⟨some 6, .assign (.const (.bool false)), none, false⟩])
 (.seq (.seq (.reg [⟨some 7, .move (.tmp 1), none, false⟩,
   ⟨some 8, .unOp .not 4 (.tmp 7), none, false⟩,
   ⟨some 9, .move (.tmp 8), none, false⟩,
   ⟨some 10, .move (.tmp 0), some (9, true), false⟩,
   ⟨some 11, .nilCheck (.tmp 10), some (9, true), false⟩,
   ⟨some 12, .fieldAddr 83 (.tmp 11) 4, some (9, true), false⟩,
   ⟨some 13, .load 32 (.tmp 12), some (9, true), false⟩,
   ⟨some 14, .binOp .eql 32 (.tmp 13) (.const (.int .i64 0)) 32, some (9, true), false⟩,
   ⟨some 15, .pick (.tmp 9) (.tmp 14) (.const (.bool false)), none, false⟩])
 (.cond (.tmp 15)
 (.reg [⟨some 16, .move (.tmp 0), none, false⟩,
   ⟨some 17, .move (.tmp 2), none, false⟩,
   ⟨some 18, .nilCheck (.tmp 16), none, false⟩,
   ⟨some 19, .fieldAddr 83 (.tmp 18) 4, none, false⟩,
   ⟨none, .store 32 (.tmp 19) (.tmp 17), none, false⟩])
 (.skip)))
 (.seq (.reg [⟨some 20, .move (.tmp 0), none, false⟩,
   ⟨some 21, .nilCheck (.tmp 20), none, false⟩,
   ⟨some 22, .fieldAddr 83 (.tmp 21) 4, none, false⟩,
   ⟨some 23, .load 32 (.tmp 22), none, false⟩,
   ⟨some 24, .binOp .eql 32 (.tmp 23) (.const (.int .i64 0)) 32, none, false⟩,
   ⟨some 6, .assign (.tmp 24), none, false⟩])
 (.ret)))
def fr48 : FR := ⟨25, [.tmp 6], cc48⟩
theorem fnis48 : FnIs Tryz.prog 48 fr48 := ⟨Tryz.f48, _, [], [], Tryz.func48, rfl, by kernel_rfl, by kernel_rfl, by kernel_rfl, by kernel_rfl⟩
/-- function 49 -/
def cc49 : CC :=
 .seq (.reg [⟨some 4, .assign (.const (.string { data := #[] })), none, false⟩])
 (.seq (.block 0
 (.loop [0, 1]
 (.seq (.seq (.reg [⟨some 5, .move (.tmp 0), none, false⟩,
   ⟨some 6, .call { callee := (.builtin .len), args := #[(.tmp 5)], argTypes := #[9] }, none, false⟩,
   ⟨some 7, .binOp .gtr 3 (.tmp 6) (.const (.int .i64 0)) 3, none, false⟩,
   ⟨some 8, .move (.tmp 7), none, false⟩,
   ⟨some 9, .move (.tmp 0), some (8, true), false⟩,
   ⟨some 10, .move (.tmp 0), some (8, true), false⟩,
   ⟨some 11, .call { callee := (.builtin .len), args := #[(.tmp 10)], argTypes := #[9] }, some (8, true), false⟩,
   ⟨some 12, .binOp .sub 3 (.tmp 11) (.const (.int .i64 1)) 3, some (8, true), false⟩,
   ⟨some 13, .index 9 (.tmp 9) (.tmp 12), some (8, true), false⟩,
   ⟨some 14, .move (.tmp 1), some (8, true), false⟩,
   ⟨some 15, .binOp .eql 5 (.tmp 13) (.tmp 14) 5, some (8, true), false⟩,
   ⟨some 16, .pick (.tmp 8) (.tmp 15) (.const (.bool false)), none, false⟩])
 (.cond (.tmp 16)
 (.skip)
 (.exit 0)))
 (.block 1
 (.reg [⟨some 17, .move (.tmp 0), none, false⟩,
   ⟨some 18, .move (.tmp 0), none, false⟩,
   ⟨some 19, .call { callee := (.builtin .len), args := #[(.tmp 18)], argTypes := #[9] }, none, false⟩,
   ⟨some 20, .binOp .sub 3 (.tmp 19) (.const (.int .i64 1)) 3, none, false⟩,
   ⟨some 21, .slice 9 (.tmp 17) none (some (.tmp 20)) none, none, false⟩,
   ⟨some 0, .assign (.tmp 21), none, false⟩])))))
 (.seq (.reg [⟨some 22, .move (.tmp 0), none, false⟩,
   ⟨some 4, .assign (.tmp 22), none, false⟩])
 (.ret)))
def fr49 : FR := ⟨23, [.tmp 4], cc49⟩
theorem fnis49 : FnIs Tryz.prog 49 fr49 := ⟨Tryz.f49, _, [[0, 1]], [], Tryz.func49, rfl, by kernel_rfl, by kernel_rfl, by kernel_rfl, by kernel_rfl⟩
/-- function 50 -/
def cc50 : CC :=
 .seq (.reg [⟨some 2, .alloc 91, none, false⟩,
   ⟨some 3, .assign (.const (.bool false)), none, false⟩])
 (.seq (.seq (.reg [⟨some 4, .assign (.const (.int .i64 0)), none, false⟩])
 (.block 0
 (.loop [0, 2, 4]
 (.seq (.seq (.reg [⟨some 6, .move (.tmp 4), none, false⟩,
   ⟨some 7, .move (.tmp 0), none, false⟩,
   ⟨some 8, .call { callee := (.builtin .len), args := #[(.tmp 7)], argTypes := #[9] }, none, false⟩,
   ⟨some 9, .binOp .lss 3 (.tmp 6) (.tmp 8) 3, none, false⟩])
 (.cond (.tmp 9)
 (.skip)
 (.exit 0)))
 (.seq (.block 1
 (.seq (.reg [⟨some 12, .move (.tmp 0), none, false⟩,
   ⟨some 13, .move (.tmp 4), none, false⟩,
   ⟨some 14, .index 9 (.tmp 12) (.tmp 13), none, false⟩,
   ⟨some 5, .assign (.tmp 14), none, false⟩])
 (.seq (.seq (.reg [⟨some 15, .move (.tmp 5), none, false⟩,
   ⟨some 16, .binOp .geq 5 (.tmp 15) (.const (.int .u8 128)) 5, none, false⟩])
 (.cond (.tmp 16)
 (.seq (.reg [⟨some 17, .load 91 (.tmp 2), none, false⟩,
   ⟨none, .store 91 (.tmp 2) (.tmp 17), none, false⟩,
   ⟨some 3, .assign (.const (.bool false)), none, false⟩])
 (.ret))
 (.skip)))
 (.reg [⟨some 18, .move (.tmp 5), none, false⟩,
   ⟨some 19, .indexAddr 91 (.tmp 2) (.tmp 18), none, false⟩,
   ⟨none, .store 4 (.tmp 19) (.const (.bool true)), none, false⟩]))))
 (.reg [⟨some 10, .move (.tmp 4), none, false⟩,
   ⟨some 11, .binOp .add 3 (.tmp 10) (.const (.int .i64 1)) 3, none, false⟩,
   ⟨some 4, .assign (.tmp 11), none, false⟩]))))))
 (.seq (.reg [⟨some 20, .load 91 (.tmp 2), none, false⟩,
   ⟨none, .store 91 (.tmp 2) (.tmp 20), none, false⟩,
   ⟨some 3, .assign (.const (.bool true)), none, false⟩])
 (.ret)))
def fr50 : FR := ⟨21, [.cell 2 91, .tmp 3], cc50⟩
theorem fnis50 : FnIs Tryz.prog 50 fr50 := ⟨Tryz.f50, _, [[0, 2, 4]], [], Tryz.func50, rfl, by kernel_rfl, by kernel_rfl, by kernel_rfl, by kernel_rfl⟩
/-- function 51 -/
def cc51 : CC :=
 .seq (.reg [⟨some 4, .assign (.const (.string { data := #[] })), none, false⟩])
 (.seq (.block 0
 (.loop [0, 1]
 (.seq (.seq (.reg [⟨some 5, .move (.tmp 0), none, false⟩,
   ⟨some 6, .call { callee := (.builtin .len), args := #[(.tmp 5)], argTypes := #[9] }, none, false⟩,
   ⟨some 7, .binOp .gtr 3 (.tmp 6) (.const (.int .i64 0)) 3, none, false⟩])
 (.cond (.tmp 7)
 (.skip)
 (.exit 0)))
 (.block 1
 (.seq (.seq (.reg [⟨some 8, .move (.tmp 1), none, false⟩,
   ⟨some 9, .move (.tmp 0), none, false⟩,
   ⟨some 10, .move (.tmp 0), none, false⟩,
   ⟨some 11, .call { callee := (.builtin .len), args := #[(.tmp 10)], argTypes := #[9] }, none, false⟩,
   ⟨some 12, .binOp .sub 3 (.tmp 11) (.const (.int .i64 1)) 3, none, false⟩,
   ⟨some 13, .index 9 (.tmp 9) (.tmp 12), none, false⟩,
   ⟨some 14, .call { callee := (.value (.func 105)), args := #[(.tmp 8), (.tmp 13)], argTypes := #[95, 5] }, none, false⟩,
   ⟨some 15, .unOp .not 4 (.tmp 14), none, false⟩])
 (.cond (.tmp 15)
 (.exit 0)
 (.skip)))
 (.reg [⟨some 16, .move (.tmp 0), none, false⟩,
   ⟨some 17, .move (.tmp 0), none, false⟩,
   ⟨some 18, .call { callee := (.builtin .len), args := #[(.tmp 17)], argTypes := #[9] }, none, false⟩,
   ⟨some 19, .binOp .sub 3 (.tmp 18) (.const (.int .i64 1)) 3, none, false⟩,
   ⟨some 20, .slice 9 (.tmp 16) none (some (.tmp 19)) none, none, false⟩,
   ⟨some 0, .assign (.tmp 20), none, false⟩]))))))
 (.seq (.reg [⟨some 21, .move (.tmp 0), none, false⟩,
   ⟨some 4, .assign (.tmp 21), none, false⟩])
 (.ret)))
def fr51 : FR := ⟨22, [.tmp 4], cc51⟩
theorem fnis51 : FnIs Tryz.prog 51 fr51 := ⟨Tryz.f51, _, [[0, 1]], [], Tryz.func51, rfl, by kernel_rfl, by kernel_rfl, by kernel_rfl, by kernel_rfl⟩
/-- function 52 -/
def cc52 : CC :=
 .seq (.reg [⟨some 4, .assign (.const (.string { data := #[] })), none, false⟩])
 (.seq (.block 0
 (.loop [0, 1]
 (.seq (.seq (.reg [⟨some 7, .move (.tmp 0), none, false⟩,
   ⟨some 8, .call { callee := (.builtin .len), args := #[(.tmp 7)], argTypes := #[9] }, none, false⟩,
   ⟨some 9, .binOp .gtr 3 (.tmp 8) (.const (.int .i64 0)) 3, none, false⟩])
 (.cond (.tmp 9)
 (.skip)
 (.exit 0)))
 (.block 1
 (.seq (.reg [⟨some 10, .move (.tmp 0), none, false⟩,
   ⟨some 11, .move (.tmp 0), none, false⟩,
   ⟨some 12, .call { callee := (.builtin .len), args := #[(.tmp 11)], argTypes := #[9] }, none, false⟩,
   ⟨some 13, .binOp .sub 3 (.tmp 12) (.const (.int .i64 1)) 3, none, false⟩,
   ⟨some 14, .index 9 (.tmp 10) (.tmp 13), none, false⟩,
   ⟨some 15, .convert 5 21 (.tmp 14), none, false⟩,
   ⟨some 5, .assign (.tmp 15), none, false⟩,
   ⟨some 6, .assign (.const (.int .i64 1)), none, false⟩])
 (.seq (.seq (.reg [⟨some 16, .move (.tmp 5), none, false⟩,
   ⟨some 17, .binOp .geq 21 (.tmp 16) (.const (.int .i32 128)) 21, none, false⟩])
 (.cond (.tmp 17)
 (.reg [⟨some 19, .move (.tmp 0), none, false⟩,
   ⟨some 20, .call { callee := (.value (.func 106)), args := #[(.tmp 19)], argTypes := #[9] }, none, false⟩,
   ⟨some 18, .move (.tmp 20), none, false⟩,
   ⟨some 21, .extract (.tmp 18) 0, none, false⟩,
   ⟨some 22, .extract (.tmp 18) 1, none, false⟩,
   ⟨some 5, .assign (.tmp 21), none, false⟩,
   ⟨some 6, .assign (.tmp 22), none, false⟩])
 (.skip)))
 (.seq (.seq (.reg [⟨some 23, .move (.tmp 1), none, false⟩,
   ⟨some 24, .move (.tmp 5), none, false⟩,
   ⟨some 25, .call { callee := (.value (.func 107)), args := #[(.tmp 23), (.tmp 24)], argTypes := #[9, 21] }, none, false⟩,
   ⟨some 26, .unOp .not 4 (.tmp 25), none, false⟩])
 (.cond (.tmp 26)
 (.exit 0)
 (.skip)))
 (.reg [⟨some 27, .move (.tmp 0), none, false⟩,
   ⟨some 28, .move (.tmp 0), none, false⟩,
   ⟨some 29, .call { callee := (.builtin .len), args := #[(.tmp 28)], argTypes := #[9] }, none, false⟩,
   ⟨some 30, .move (.tmp 6), none, false⟩,
   ⟨some 31, .binOp .sub 3 (.tmp 29) (.tmp 30) 3, none, false⟩,
   ⟨some 32, .slice 9 (.tmp 27) none (some (.tmp 31)) none, none, false⟩,
   ⟨some 0, .assign (.tmp 32), none, false⟩]))))))))
 (.seq (.reg [⟨some 33, .move (.tmp 0), none, false⟩,
   ⟨some 4, .assign (.tmp 33), none, false⟩])
 (.ret)))
def fr52 : FR := ⟨34, [.tmp 4], cc52⟩
theorem fnis52 : FnIs Tryz.prog 52 fr52 := ⟨Tryz.f52, _, [[0, 1]], [], Tryz.func52, rfl, by kernel_rfl, by kernel_rfl, by kernel_rfl, by kernel_rfl⟩
/-- function 53 -/
def cc53 : CC :=
 .seq (.reg [⟨some 2, .assign (.const (.string { data := #[] })), none, false⟩,
   ⟨some 3, .assign (.const (.int .i64 0)), none, false⟩])
 (.seq (.reg [⟨some 4, .assign (.const (.int .i64 0)), none, false⟩])
 (.seq (.block 0
 (.loop [0, 4]
 (.seq (.seq (.reg [⟨some 5, .move (.tmp 0), none, false⟩,
   ⟨some 6, .call { callee := (.value (.func 108)), args := #[(.tmp 5), (.const (.string { data := #[91, 93] }))], argTypes := #[9, 9] }, none, false⟩])
 (.cond (.tmp 6)
 (.skip)
 (.exit 0)))
 (.block 1
 (.reg [⟨some 7, .move (.tmp 0), none, false⟩,
   ⟨some 8, .call { callee := (.value (.func 109)), args := #[(.tmp 7), (.const (.string { data := #[91, 93] }))], argTypes := #[9, 9] }, none, false⟩,
   ⟨some 9, .move (.tmp 4), none, false⟩,
   ⟨some 10, .binOp .add 3 (.tmp 9) (.const (.int .i64 1)) 3, none, false⟩,
   ⟨some 0, .assign (.tmp 8), none, false⟩,
   ⟨some 4, .assign (.tmp 10), none, false⟩])))))
 (.seq (.reg [⟨some 11, .move (.tmp 0), none, false⟩,
   ⟨some 12, .move (.tmp 4), none, false⟩,
   ⟨some 2, .assign (.tmp 11), none, false⟩,
   ⟨some 3, .assign (.tmp 12), none, false⟩])
 (.ret))))
def fr53 : FR := ⟨13, [.tmp 2, .tmp 3], cc53⟩
theorem fnis53 : FnIs Tryz.prog 53 fr53 := ⟨Tryz.f53, _, [[0, 4]], [], Tryz.func53, rfl, by kernel_rfl, by kernel_rfl, by kernel_rfl, by kernel_rfl⟩
/-- function 54 -/
def cc54 : CC :=
 .seq (.reg [⟨some 2, .assign (.const (.bool false)), none, false⟩])
 (.seq (.reg [⟨some 3, .move (.tmp 0), none, false⟩,
   ⟨some 4, .call { callee := (.value (.func 110)), args := #[(.tmp 3)], argTypes := #[9] }, none, false⟩,
   ⟨some 5, .move (.tmp 4), none, false⟩,
   ⟨some 6, .move (.tmp 0), some (5, true), false⟩,
   ⟨some 7, .index 9 (.tmp 6) (.const (.int .i64 0)), some (5, true), false⟩,
   ⟨some 8, .convert 5 21 (.tmp 7), some (5, true), false⟩,
   ⟨some 9, .call { callee := (.value (.func 111)), args := #[(.tmp 8)], argTypes := #[21] }, some (5, true), false⟩,
   ⟨some 10, .pick (.tmp 5) (.tmp 9) (.const (.bool false)), none, false⟩,
   ⟨some 2, .assign (.tmp 10), none, false⟩])
 (.ret))
def fr54 : FR := ⟨11, [.tmp 2], cc54⟩
theorem fnis54 : FnIs Tryz.prog 54 fr54 := ⟨Tryz.f54, _, [], [], Tryz.func54, rfl, by kernel_rfl, by kernel_rfl, by kernel_rfl, by kernel_rfl⟩
/-- function 55 -/
def cc55 : CC :=
 .seq (.reg [⟨some 5, .box 9 (.tmp 2), none, false⟩,
   ⟨some 6, .assign (.const (.bool false)), none, false⟩])
 (.seq (.block 0
 (.seq (.reg [⟨some 8, .move (.tmp 0), none, false⟩,
   ⟨some 9, .move (.tmp 1), none, false⟩,
   ⟨some 10, .call { callee := (.value (.func 9)), args := #[(.tmp 8), (.tmp 9)], argTypes := #[25, 9] }, none, false⟩,
   ⟨some 11, .unOp .not 4 (.tmp 10), none, false⟩,
   ⟨some 12, .move (.tmp 11), none, false⟩,
   ⟨some 13, .move (.tmp 0), some (12, false), false⟩,
   ⟨some 14, .load 9 (.tmp 5), some (12, false), false⟩,
   ⟨some 15, .call { callee := (.value (.func 9)), args := #[(.tmp 13), (.tmp 14)], argTypes := #[25, 9] }, some (12, false), false⟩,
   ⟨some 16, .unOp .not 4 (.tmp 15), some (12, false), false⟩,
   ⟨some 17, .pick (.tmp 12) (.const (.bool true)) (.tmp 16), none, false⟩,
   ⟨some 7, .assign (.tmp 17), none, false⟩])
 (.cond (.tmp 7)
 (.seq (.reg [⟨some 6, .assign (.const (.bool false)), none, false⟩])
 (.ret))
 (.seq (.reg [⟨some 19, .move (.tmp 1), none, false⟩,
   ⟨some 20, .load 9 (.tmp 5), none, false⟩,
   ⟨some 21, .binOp .eql 9 (.tmp 19) (.tmp 20) 9, none, false⟩,
   ⟨some 18, .assign (.tmp 21), none, false⟩])
 (.cond (.tmp 18)
 (.seq (.reg [⟨some 6, .assign (.const (.bool true)), none, false⟩])
 (.ret))
 (.seq (.reg [⟨some 23, .move (.tmp 1), none, false⟩,
   ⟨some 24, .call { callee := (.value (.func 23)), args := #[(.tmp 23)], argTypes := #[9] }, none, false⟩,
   ⟨some 25, .move (.tmp 24), none, false⟩,
   ⟨some 26, .load 9 (.tmp 5), some (25, false), false⟩,
   ⟨some 27, .call { callee := (.value (.func 23)), args := #[(.tmp 26)], argTypes := #[9] }, some (25, false), false⟩,
   ⟨some 28, .pick (.tmp 25) (.const (.bool true)) (.tmp 27), none, false⟩,
   ⟨some 22, .assign (.tmp 28), none, false⟩])
 (.cond (.tmp 22)
 (.seq (.reg [⟨some 6, .assign (.const (.bool false)), none, false⟩])
 (.ret))
 (.seq (.reg [⟨some 30, .move (.tmp 1), none, false⟩,
   ⟨some 31, .binOp .eql 9 (.tmp 30) (.const (.string { data := #[110, 117, 108, 108] })) 9, none, false⟩,
   ⟨some 29, .assign (.tmp 31), none, false⟩])
 (.cond (.tmp 29)
 (.seq (.reg [⟨some 6, .assign (.const (.bool true)), none, false⟩])
 (.ret))
 (.seq (.reg [⟨some 33, .move (.tmp 1), none, false⟩,
   ⟨some 34, .call { callee := (.value (.func 112)), args := #[(.tmp 33)], argTypes := #[9] }, none, false⟩,
   ⟨some 35, .binOp .neq 9 (.tmp 34) (.const (.string { data := #[] })) 9, none, false⟩,
   ⟨some 32, .assign (.tmp 35), none, false⟩])
 (.cond (.tmp 32)
 (.seq (.reg [⟨some 36, .load 9 (.tmp 5), none, false⟩,
   ⟨some 37, .binOp .eql 9 (.tmp 36) (.const (.string { data := #[79, 98, 106, 101, 99, 116] })) 9, none, false⟩,
   ⟨some 6, .assign (.tmp 37), none, false⟩])
 (.ret))
 (.skip))))))))))))
 (.seq (.reg [⟨some 38, .move (.tmp 0), none, false⟩,
   ⟨some 39, .move (.tmp 1), none, false⟩,
   ⟨some 40, .makeFunc (.func 113) #[] #[(.tmp 5)], none, false⟩,
   ⟨some 41, .call { callee := (.value (.func 63)), args := #[(.tmp 38), (.tmp 39), (.tmp 40)], argTypes := #[25, 9, 69] }, none, false⟩,
   ⟨some 6, .assign (.tmp 41), none, false⟩])
 (.ret)))
def fr55 : FR := ⟨42, [.tmp 6], cc55⟩
theorem fnis55 : FnIs Tryz.prog 55 fr55 := ⟨Tryz.f55, _, [], [], Tryz.func55, rfl, by kernel_rfl, by kernel_rfl, by kernel_rfl, by kernel_rfl⟩
/-- function 56 -/
def cc56 : CC :=
 .seq (.reg [⟨some 4, .alloc 65, none, false⟩])
 (.seq (.reg [⟨some 5, .move (.tmp 0), none, false⟩,
   ⟨some 6, .nilCheck (.tmp 5), none, false⟩,
   ⟨some 7, .fieldAddr 61 (.tmp 6) 0, none, false⟩,
   ⟨some 8, .load 26 (.tmp 7), none, false⟩,
   ⟨some 9, .move (.tmp 0), none, false⟩,
   ⟨some 10, .nilCheck (.tmp 9), none, false⟩,
   ⟨some 11, .fieldAddr 61 (.tmp 10) 1, none, false⟩,
   ⟨some 12, .load 59 (.tmp 11), none, false⟩,
   ⟨some 13, .move (.tmp 1), none, false⟩,
   ⟨some 14, .lookup 59 (.tmp 12) (.tmp 13) false, none, false⟩,
   ⟨some 15, .indexAddr 26 (.tmp 8) (.tmp 14), none, false⟩,
   ⟨some 16, .load 65 (.tmp 15), none, false⟩,
   ⟨none, .store 65 (.tmp 4) (.tmp 16), none, false⟩])
 (.ret))
def fr56 : FR := ⟨17, [.cell 4 65], cc56⟩
theorem fnis56 : FnIs Tryz.prog 56 fr56 := ⟨Tryz.f56, _, [], [], Tryz.func56, rfl, by kernel_rfl, by kernel_rfl, by kernel_rfl, by kernel_rfl⟩
/-- function 57 -/
def cc57 : CC :=
 .seq (.reg [⟨some 4, .assign (.const (.int .i64 0)), none, false⟩])
 (.seq (.seq (.reg [⟨some 6, .move (.tmp 0), none, false⟩,
   ⟨some 7, .call { callee := (.builtin .len), args := #[(.tmp 6)], argTypes := #[42] }, none, false⟩,
   ⟨some 8, .move (.const (.int .i64 0)), none, false⟩])
 (.block 0
 (.loop [0, 1, 7, 8]
 (.seq (.reg [⟨some 9, .binOp .lss 3 (.tmp 8) (.tmp 7) 3, none, false⟩])
 (.seq (.cond (.tmp 9)
 (.skip)
 (.exit 0))
 (.seq (.block 1
 (.seq (.reg [⟨some 10, .move (.tmp 8), none, false⟩,
   ⟨some 5, .assign (.tmp 10), none, false⟩])
 (.seq (.reg [⟨some 11, .move (.tmp 1), none, false⟩,
   ⟨some 12, .move (.tmp 0), none, false⟩,
   ⟨some 13, .move (.tmp 5), none, false⟩,
   ⟨some 14, .indexAddr 42 (.tmp 12) (.tmp 13), none, false⟩,
   ⟨some 15, .load 3 (.tmp 14), none, false⟩,
   ⟨some 16, .call { callee := (.value (.tmp 11)), args := #[(.tmp 15)], argTypes := #[3] }, none, false⟩])
 (.cond (.tmp 16)
 (.seq (.reg [⟨some 17, .move (.tmp 5), none, false⟩,
   ⟨some 4, .assign (.tmp 17), none, false⟩])
 (.ret))
 (.skip)))))
 (.reg [⟨some 18, .binOp .add 3 (.tmp 8) (.const (.int .i64 1)) 3, none, false⟩,
   ⟨some 8, .move (.tmp 18), none, false⟩])))))))
 (.seq (.reg [⟨some 4, .assign (.const (.int .i64 (-1))), none, false⟩])
 (.ret)))
def fr57 : FR := ⟨19, [.tmp 4], cc57⟩
theorem fnis57 : FnIs Tryz.prog 57 fr57 := ⟨Tryz.f57, _, [[0, 1, 7, 8]], [], Tryz.func57, rfl, by kernel_rfl, by kernel_rfl, by kernel_rfl, by kernel_rfl⟩
/-- function 58 -/
def cc58 : CC :=
 .seq (.reg [⟨some 1, .box 65 (.tmp 0), none, false⟩,
   ⟨some 2, .assign (.const (.bool false)), none, false⟩])
 (.seq (.seq (.reg [⟨some 5, .fieldAddr 65 (.tmp 1) 7, none, false⟩,
   ⟨some 6, .load 63 (.tmp 5), none, false⟩,
   ⟨some 7, .call { callee := (.builtin .len), args := #[(.tmp 6)], argTypes := #[63] }, none, false⟩,
   ⟨some 8, .move (.const (.int .i64 0)), none, false⟩])
 (.block 0
 (.loop [1, 6, 7, 8]
 (.seq (.reg [⟨some 9, .binOp .lss 3 (.tmp 8) (.tmp 7) 3, none, false⟩])
 (.seq (.cond (.tmp 9)
 (.skip)
 (.exit 0))
 (.seq (.block 1
 (.seq (.reg [⟨some 10, .indexAddr 63 (.tmp 6) (.tmp 8), none, false⟩,
   ⟨some 11, .load 39 (.tmp 10), none, false⟩,
   ⟨some 4, .alloc 39, none, false⟩,
   ⟨none, .store 39 (.tmp 4) (.tmp 11), none, false⟩])
 (.seq (.reg [⟨some 12, .fieldAddr 39 (.tmp 4) 1, none, false⟩,
   ⟨some 13, .load 22 (.tmp 12), none, false⟩,
   ⟨some 14, .call { callee := (.builtin .len), args := #[(.tmp 13)], argTypes := #[22] }, none, false⟩,
   ⟨some 15, .binOp .gtr 3 (.tmp 14) (.const (.int .i64 32)) 3, none, false⟩,
   ⟨some 16, .move (.tmp 15), none, false⟩,
   ⟨some 17, .fieldAddr 39 (.tmp 4) 6, some (16, false), false⟩,
   ⟨some 18, .load 37 (.tmp 17), some (16, false), false⟩,
   ⟨some 19, .call { callee := (.builtin .len), args := #[(.tmp 18)], argTypes := #[37] }, some (16, false), false⟩,
   ⟨some 20, .binOp .gtr 3 (.tmp 19) (.const (.int .i64 32)) 3, some (16, false), false⟩,
   ⟨some 21, .pick (.tmp 16) (.const (.bool true)) (.tmp 20), none, false⟩,
   ⟨some 22, .move (.tmp 21), none, false⟩,
   ⟨some 23, .fieldAddr 39 (.tmp 4) 5, some (22, false), false⟩,
   ⟨some 24, .load 36 (.tmp 23), some (22, false), false⟩,
   ⟨some 25, .call { callee := (.builtin .len), args := #[(.tmp 24)], argTypes := #[36] }, some (22, false), false⟩,
   ⟨some 26, .binOp .gtr 3 (.tmp 25) (.const (.int .i64 200)) 3, some (22, false), false⟩,
   ⟨some 27, .pick (.tmp 22) (.const (.bool true)) (.tmp 26), none, false⟩,
   ⟨some 28, .move (.tmp 27), none, false⟩,
   ⟨some 29, .fieldAddr 39 (.tmp 4) 4, some (28, false), false⟩,
   ⟨some 30, .load 3 (.tmp 29), some (28, false), false⟩,
   ⟨some 31, .binOp .gtr 3 (.tmp 30) (.const (.int .i64 64)) 3, some (28, false), false⟩,
   ⟨some 32, .pick (.tmp 28) (.const (.bool true)) (.tmp 31), none, false⟩])
 (.cond (.tmp 32)
 (.seq (.reg [⟨some 2, .assign (.const (.bool true)), none, false⟩])
 (.ret))
 (.skip)))))
 (.reg [⟨some 33, .binOp .add 3 (.tmp 8) (.const (.int .i64 1)) 3, none, false⟩,
   ⟨some 8, .move (.tmp 33), none, false⟩])))))))
 (.seq (.reg [⟨some 34, .fieldAddr 65 (.tmp 1) 2, none, false⟩,
   ⟨some 35, .load 22 (.tmp 34), none, false⟩,
   ⟨some 36, .call { callee := (.builtin .len), args := #[(.tmp 35)], argTypes := #[22] }, none, false⟩,
   ⟨some 37, .binOp .gtr 3 (.tmp 36) (.const (.int .i64 32)) 3, none, false⟩,
   ⟨some 38, .move (.tmp 37), none, false⟩,
   ⟨some 39, .fieldAddr 65 (.tmp 1) 6, some (38, false), false⟩,
   ⟨some 40, .load 62 (.tmp 39), some (38, false), false⟩,
   ⟨some 41, .call { callee := (.builtin .len), args := #[(.tmp 40)], argTypes := #[62] }, some (38, false), false⟩,
   ⟨some 42, .binOp .gtr 3 (.tmp 41) (.const (.int .i64 32)) 3, some (38, false), false⟩,
   ⟨some 43, .pick (.tmp 38) (.const (.bool true)) (.tmp 42), none, false⟩,
   ⟨some 44, .move (.tmp 43), none, false⟩,
   ⟨some 45, .fieldAddr 65 (.tmp 1) 7, some (44, false), false⟩,
   ⟨some 46, .load 63 (.tmp 45), some (44, false), false⟩,
   ⟨some 47, .call { callee := (.builtin .len), args := #[(.tmp 46)], argTypes := #[63] }, some (44, false), false⟩,
   ⟨some 48, .binOp .gtr 3 (.tmp 47) (.const (.int .i64 32)) 3, some (44, false), false⟩,
   ⟨some 49, .pick (.tmp 44) (.const (.bool true)) (.tmp 48), none, false⟩,
   ⟨some 2, .assign (.tmp 49), none, false⟩])
 (.ret)))
def fr58 : FR := ⟨50, [.tmp 2], cc58⟩
theorem fnis58 : FnIs Tryz.prog 58 fr58 := ⟨Tryz.f58, _, [[1, 6, 7, 8]], [], Tryz.func58, rfl, by kernel_rfl, by kernel_rfl, by kernel_rfl, by kernel_rfl⟩
end Go.Proofs.YtijkkgloennglaaGreatDoor.Ab
