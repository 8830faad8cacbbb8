/-
  Functions of the translated program, compiled. No condition.
-/
import Derived.Test.YtijkkgloennglaaGreatDoorFw14
import Derived.KernelRfl
import Derived.Test.YtijkkgloennglaaGreatDoorProg
set_option maxRecDepth 100000
namespace Go.Proofs.YtijkkgloennglaaGreatDoor.Ab
open Go Go.RowKit
/-- function 59 -/
def cc59 : CC :=
 .seq (.reg [⟨some 1, .box 65 (.tmp 0), none, false⟩,
   ⟨some 2, .assign (.const (.bool false)), none, false⟩])
 (.seq (.reg [⟨some 7, .fieldAddr 65 (.tmp 1) 0, none, false⟩,
   ⟨some 8, .load 9 (.tmp 7), none, false⟩,
   ⟨some 9, .fieldAddr 65 (.tmp 1) 1, none, false⟩,
   ⟨some 10, .load 9 (.tmp 9), none, false⟩,
   ⟨some 11, .buildSlice 22 2 #[(0, (.tmp 8)), (1, (.tmp 10))], none, false⟩,
   ⟨some 12, .fieldAddr 65 (.tmp 1) 2, none, false⟩,
   ⟨some 13, .load 22 (.tmp 12), none, false⟩,
   ⟨some 14, .call { callee := (.builtin .append), args := #[(.tmp 11), (.tmp 13)], argTypes := #[22, 22] }, none, false⟩,
   ⟨some 3, .assign (.tmp 14), none, false⟩])
 (.seq (.reg [⟨some 15, .move (.tmp 3), none, false⟩,
   ⟨some 16, .slice 22 (.tmp 15) (some (.const (.int .i64 1))) none none, none, false⟩,
   ⟨some 17, .fieldAddr 65 (.tmp 1) 0, none, false⟩,
   ⟨some 18, .load 9 (.tmp 17), none, false⟩,
   ⟨some 19, .call { callee := (.value (.func 114)), args := #[(.tmp 16), (.tmp 18)], argTypes := #[22, 9] }, none, false⟩,
   ⟨some 4, .assign (.tmp 19), none, false⟩])
 (.seq (.reg [⟨some 20, .fieldAddr 65 (.tmp 1) 7, none, false⟩,
   ⟨some 21, .load 63 (.tmp 20), none, false⟩,
   ⟨some 22, .call { callee := (.value (.func 72)), args := #[(.tmp 21), (.func 115)], argTypes := #[63, 114] }, none, false⟩,
   ⟨some 5, .assign (.tmp 22), none, false⟩])
 (.seq (.reg [⟨some 23, .fieldAddr 65 (.tmp 1) 7, none, false⟩,
   ⟨some 24, .load 63 (.tmp 23), none, false⟩,
   ⟨some 25, .call { callee := (.value (.func 72)), args := #[(.tmp 24), (.func 116)], argTypes := #[63, 114] }, none, false⟩,
   ⟨some 6, .assign (.tmp 25), none, false⟩])
 (.seq (.block 0
 (.seq (.reg [⟨some 27, .move (.tmp 3), none, false⟩,
   ⟨some 28, .call { callee := (.value (.func 117)), args := #[(.tmp 27), (.func 54)], argTypes := #[22, 31] }, none, false⟩,
   ⟨some 29, .unOp .not 4 (.tmp 28), none, false⟩,
   ⟨some 30, .move (.tmp 29), none, false⟩,
   ⟨some 31, .move (.tmp 4), some (30, false), false⟩,
   ⟨some 32, .pick (.tmp 30) (.const (.bool true)) (.tmp 31), none, false⟩,
   ⟨some 33, .move (.tmp 32), none, false⟩,
   ⟨some 34, .fieldAddr 65 (.tmp 1) 2, some (33, false), false⟩,
   ⟨some 35, .load 22 (.tmp 34), some (33, false), false⟩,
   ⟨some 36, .call { callee := (.value (.func 118)), args := #[(.tmp 35), (.func 119)], argTypes := #[22, 129] }, some (33, false), false⟩,
   ⟨some 37, .unOp .not 4 (.tmp 36), some (33, false), false⟩,
   ⟨some 38, .pick (.tmp 33) (.const (.bool true)) (.tmp 37), none, false⟩,
   ⟨some 26, .assign (.tmp 38), none, false⟩])
 (.cond (.tmp 26)
 (.seq (.reg [⟨some 2, .assign (.const (.bool false)), none, false⟩])
 (.ret))
 (.seq (.reg [⟨some 40, .fieldAddr 65 (.tmp 1) 3, none, false⟩,
   ⟨some 41, .load 4 (.tmp 40), none, false⟩,
   ⟨some 42, .move (.tmp 41), none, false⟩,
   ⟨some 43, .fieldAddr 65 (.tmp 1) 4, some (42, true), false⟩,
   ⟨some 44, .load 4 (.tmp 43), some (42, true), false⟩,
   ⟨some 45, .unOp .not 4 (.tmp 44), some (42, true), false⟩,
   ⟨some 46, .move (.tmp 45), some (42, true), false⟩,
   ⟨some 47, .fieldAddr 65 (.tmp 1) 1, some (46, false), false⟩,
   ⟨some 48, .load 9 (.tmp 47), some (46, false), false⟩,
   ⟨some 49, .binOp .neq 9 (.tmp 48) (.const (.string { data := #[79, 98, 106, 101, 99, 116] })) 9, some (46, false), false⟩,
   ⟨some 50, .pick (.tmp 46) (.const (.bool true)) (.tmp 49), some (42, true), false⟩,
   ⟨some 51, .move (.tmp 50), some (42, true), false⟩,
   ⟨some 52, .fieldAddr 65 (.tmp 1) 6, some (51, false), false⟩,
   ⟨some 53, .load 62 (.tmp 52), some (51, false), false⟩,
   ⟨some 54, .call { callee := (.builtin .len), args := #[(.tmp 53)], argTypes := #[62] }, some (51, false), false⟩,
   ⟨some 55, .binOp .gtr 3 (.tmp 54) (.const (.int .i64 0)) 3, some (51, false), false⟩,
   ⟨some 56, .pick (.tmp 51) (.const (.bool true)) (.tmp 55), some (42, true), false⟩,
   ⟨some 57, .move (.tmp 56), some (42, true), false⟩,
   ⟨some 58, .move (.tmp 6), some (57, false), false⟩,
   ⟨some 59, .pick (.tmp 57) (.const (.bool true)) (.tmp 58), some (42, true), false⟩,
   ⟨some 60, .pick (.tmp 42) (.tmp 59) (.const (.bool false)), none, false⟩,
   ⟨some 39, .assign (.tmp 60), none, false⟩])
 (.cond (.tmp 39)
 (.seq (.reg [⟨some 2, .assign (.const (.bool false)), none, false⟩])
 (.ret))
 (.seq (.reg [⟨some 62, .fieldAddr 65 (.tmp 1) 4, none, false⟩,
   ⟨some 63, .load 4 (.tmp 62), none, false⟩,
   ⟨some 64, .move (.tmp 63), none, false⟩,
   ⟨some 65, .fieldAddr 65 (.tmp 1) 5, some (64, true), false⟩,
   ⟨some 66, .load 4 (.tmp 65), some (64, true), false⟩,
   ⟨some 67, .pick (.tmp 64) (.tmp 66) (.const (.bool false)), none, false⟩,
   ⟨some 68, .move (.tmp 67), none, false⟩,
   ⟨some 69, .move (.tmp 5), some (68, false), false⟩,
   ⟨some 70, .move (.tmp 69), some (68, false), false⟩,
   ⟨some 71, .fieldAddr 65 (.tmp 1) 4, some (70, true), false⟩,
   ⟨some 72, .load 4 (.tmp 71), some (70, true), false⟩,
   ⟨some 73, .unOp .not 4 (.tmp 72), some (70, true), false⟩,
   ⟨some 74, .pick (.tmp 70) (.tmp 73) (.const (.bool false)), some (68, false), false⟩,
   ⟨some 75, .pick (.tmp 68) (.const (.bool true)) (.tmp 74), none, false⟩,
   ⟨some 61, .assign (.tmp 75), none, false⟩])
 (.cond (.tmp 61)
 (.seq (.reg [⟨some 2, .assign (.const (.bool false)), none, false⟩])
 (.ret))
 (.seq (.reg [⟨some 77, .fieldAddr 65 (.tmp 1) 6, none, false⟩,
   ⟨some 78, .load 62 (.tmp 77), none, false⟩,
   ⟨some 79, .call { callee := (.value (.func 120)), args := #[(.tmp 78), (.func 121)], argTypes := #[62, 133] }, none, false⟩,
   ⟨some 80, .unOp .not 4 (.tmp 79), none, false⟩,
   ⟨some 81, .move (.tmp 80), none, false⟩,
   ⟨some 82, .fieldAddr 65 (.tmp 1) 7, some (81, false), false⟩,
   ⟨some 83, .load 63 (.tmp 82), some (81, false), false⟩,
   ⟨some 84, .call { callee := (.value (.func 122)), args := #[(.tmp 83), (.func 123)], argTypes := #[63, 113] }, some (81, false), false⟩,
   ⟨some 85, .unOp .not 4 (.tmp 84), some (81, false), false⟩,
   ⟨some 86, .pick (.tmp 81) (.const (.bool true)) (.tmp 85), none, false⟩,
   ⟨some 76, .assign (.tmp 86), none, false⟩])
 (.cond (.tmp 76)
 (.seq (.reg [⟨some 2, .assign (.const (.bool false)), none, false⟩])
 (.ret))
 (.skip))))))))))
 (.seq (.reg [⟨some 87, .fieldAddr 65 (.tmp 1) 6, none, false⟩,
   ⟨some 88, .load 62 (.tmp 87), none, false⟩,
   ⟨some 89, .call { callee := (.value (.func 124)), args := #[(.tmp 88), (.func 125)], argTypes := #[62, 136] }, none, false⟩,
   ⟨some 90, .move (.tmp 89), none, false⟩,
   ⟨some 91, .fieldAddr 65 (.tmp 1) 7, some (90, true), false⟩,
   ⟨some 92, .load 63 (.tmp 91), some (90, true), false⟩,
   ⟨some 93, .call { callee := (.value (.func 127)), args := #[(.tmp 92), (.func 128)], argTypes := #[63, 114] }, some (90, true), false⟩,
   ⟨some 94, .pick (.tmp 90) (.tmp 93) (.const (.bool false)), none, false⟩,
   ⟨some 2, .assign (.tmp 94), none, false⟩])
 (.ret)))))))
def fr59 : FR := ⟨95, [.tmp 2], cc59⟩
theorem fnis59 : FnIs Tryz.prog 59 fr59 := ⟨Tryz.f59, _, [], [], Tryz.func59, rfl, by kernel_rfl, by kernel_rfl, by kernel_rfl, by kernel_rfl⟩
/-- function 60 -/
def cc60 : CC :=
 .seq (.reg [⟨some 2, .assign (.const (.slice none 0 0)), none, false⟩])
 (.seq (.seq (.reg [⟨some 3, .move (.tmp 0), none, false⟩,
   ⟨some 4, .binOp .eql 62 (.tmp 3) (.const (.slice none 0 0)) 62, none, false⟩])
 (.cond (.tmp 4)
 (.seq (.reg [⟨some 2, .assign (.const (.slice none 0 0)), none, false⟩])
 (.ret))
 (.skip)))
 (.seq (.reg [⟨some 5, .buildSlice 62 0 #[], none, false⟩,
   ⟨some 6, .move (.tmp 0), none, false⟩,
   ⟨some 7, .call { callee := (.builtin .append), args := #[(.tmp 5), (.tmp 6)], argTypes := #[62, 62] }, none, false⟩,
   ⟨some 2, .assign (.tmp 7), none, false⟩])
 (.ret)))
def fr60 : FR := ⟨8, [.tmp 2], cc60⟩
theorem fnis60 : FnIs Tryz.prog 60 fr60 := ⟨Tryz.f60, _, [], [], Tryz.func60, rfl, by kernel_rfl, by kernel_rfl, by kernel_rfl, by kernel_rfl⟩
/-- function 61 -/
def cc61 : CC :=
 .seq (.reg [⟨some 1, .box 39 (.tmp 0), none, false⟩,
   ⟨some 2, .alloc 39, none, false⟩])
 (.seq (.reg [⟨some 3, .fieldAddr 39 (.tmp 1) 1, none, false⟩,
   ⟨some 4, .load 22 (.tmp 3), none, false⟩,
   ⟨some 6, .fieldAddr 39 (.tmp 1) 5, none, false⟩,
   ⟨some 7, .load 36 (.tmp 6), none, false⟩,
   ⟨some 9, .fieldAddr 39 (.tmp 1) 6, none, false⟩,
   ⟨some 10, .load 37 (.tmp 9), none, false⟩,
   ⟨some 5, .call { callee := (.value (.func 46)), args := #[(.tmp 4)], argTypes := #[22] }, none, false⟩,
   ⟨some 7, .load 36 (.tmp 6), none, true⟩,
   ⟨some 10, .load 37 (.tmp 9), none, true⟩,
   ⟨some 12, .fieldAddr 39 (.tmp 1) 1, none, false⟩,
   ⟨some 8, .call { callee := (.value (.func 129)), args := #[(.tmp 7)], argTypes := #[36] }, none, false⟩,
   ⟨some 10, .load 37 (.tmp 9), none, true⟩,
   ⟨some 11, .call { callee := (.value (.func 130)), args := #[(.tmp 10)], argTypes := #[37] }, none, false⟩,
   ⟨none, .store 22 (.tmp 12) (.tmp 5), none, false⟩,
   ⟨some 13, .fieldAddr 39 (.tmp 1) 5, none, false⟩,
   ⟨none, .store 36 (.tmp 13) (.tmp 8), none, false⟩,
   ⟨some 14, .fieldAddr 39 (.tmp 1) 6, none, false⟩,
   ⟨none, .store 37 (.tmp 14) (.tmp 11), none, false⟩])
 (.seq (.reg [⟨some 15, .load 39 (.tmp 1), none, false⟩,
   ⟨none, .store 39 (.tmp 2) (.tmp 15), none, false⟩])
 (.ret)))
def fr61 : FR := ⟨16, [.cell 2 39], cc61⟩
theorem fnis61 : FnIs Tryz.prog 61 fr61 := ⟨Tryz.f61, _, [], [], Tryz.func61, rfl, by kernel_rfl, by kernel_rfl, by kernel_rfl, by kernel_rfl⟩
/-- function 62 -/
def cc62 : CC :=
 .seq (.reg [⟨some 4, .assign (.const (.bool false)), none, false⟩])
 (.seq (.reg [⟨some 5, .load 25 (.tmp 1), none, false⟩,
   ⟨some 6, .move (.tmp 0), none, false⟩,
   ⟨some 7, .makeFunc (.func 64) #[] #[(.tmp 2)], none, false⟩,
   ⟨some 8, .call { callee := (.value (.func 63)), args := #[(.tmp 5), (.tmp 6), (.tmp 7)], argTypes := #[25, 9, 69] }, none, false⟩,
   ⟨some 4, .assign (.tmp 8), none, false⟩])
 (.ret))
def fr62 : FR := ⟨9, [.tmp 4], cc62⟩
theorem fnis62 : FnIs Tryz.prog 62 fr62 := ⟨Tryz.f62, _, [], [], Tryz.func62, rfl, by kernel_rfl, by kernel_rfl, by kernel_rfl, by kernel_rfl⟩
/-- function 63 -/
def cc63 : CC :=
 .seq (.reg [⟨some 6, .assign (.const (.bool false)), none, false⟩])
 (.seq (.reg [⟨some 13, .move (.tmp 1), none, false⟩,
   ⟨some 14, .buildSlice 22 1 #[(0, (.tmp 13))], none, false⟩,
   ⟨some 15, .makeMap 59 none, none, false⟩,
   ⟨some 7, .assign (.tmp 14), none, false⟩,
   ⟨some 8, .assign (.tmp 15), none, false⟩])
 (.seq (.block 0
 (.loop [0, 2, 7, 8]
 (.seq (.seq (.reg [⟨some 16, .move (.tmp 7), none, false⟩,
   ⟨some 17, .call { callee := (.builtin .len), args := #[(.tmp 16)], argTypes := #[22] }, none, false⟩,
   ⟨some 18, .binOp .gtr 3 (.tmp 17) (.const (.int .i64 0)) 3, none, false⟩])
 (.cond (.tmp 18)
 (.skip)
 (.exit 0)))
 (.block 1
 (.seq (.reg [⟨some 19, .move (.tmp 7), none, false⟩,
   ⟨some 20, .indexAddr 22 (.tmp 19) (.const (.int .i64 0)), none, false⟩,
   ⟨some 21, .load 9 (.tmp 20), none, false⟩,
   ⟨some 9, .assign (.tmp 21), none, false⟩])
 (.seq (.reg [⟨some 22, .move (.tmp 7), none, false⟩,
   ⟨some 23, .slice 22 (.tmp 22) (some (.const (.int .i64 1))) none none, none, false⟩,
   ⟨some 7, .assign (.tmp 23), none, false⟩])
 (.seq (.seq (.reg [⟨some 25, .move (.tmp 8), none, false⟩,
   ⟨some 26, .move (.tmp 9), none, false⟩,
   ⟨some 27, .lookup 59 (.tmp 25) (.tmp 26) true, none, false⟩,
   ⟨some 24, .move (.tmp 27), none, false⟩,
   ⟨some 28, .extract (.tmp 24) 0, none, false⟩,
   ⟨some 29, .extract (.tmp 24) 1, none, false⟩,
   ⟨some 10, .assign (.tmp 28), none, false⟩,
   ⟨some 11, .assign (.tmp 29), none, false⟩])
 (.seq (.reg [⟨some 30, .move (.tmp 11), none, false⟩,
   ⟨some 31, .move (.tmp 30), none, false⟩,
   ⟨some 32, .move (.tmp 0), some (31, false), false⟩,
   ⟨some 33, .move (.tmp 9), some (31, false), false⟩,
   ⟨some 34, .call { callee := (.value (.func 24)), args := #[(.tmp 32), (.tmp 33)], argTypes := #[25, 9] }, some (31, false), false⟩,
   ⟨some 35, .unOp .not 4 (.tmp 34), some (31, false), false⟩,
   ⟨some 36, .pick (.tmp 31) (.const (.bool true)) (.tmp 35), none, false⟩])
 (.cond (.tmp 36)
 (.exit 1)
 (.skip))))
 (.seq (.reg [⟨some 37, .move (.tmp 8), none, false⟩,
   ⟨some 38, .move (.tmp 9), none, false⟩,
   ⟨none, .mapUpdate 59 (.tmp 37) (.tmp 38) (.const (.int .i64 1)), none, false⟩])
 (.seq (.reg [⟨some 39, .move (.tmp 0), none, false⟩,
   ⟨some 40, .move (.tmp 9), none, false⟩,
   ⟨some 41, .call { callee := (.value (.func 56)), args := #[(.tmp 39), (.tmp 40)], argTypes := #[25, 9] }, none, false⟩,
   ⟨some 12, .alloc 65, none, false⟩,
   ⟨none, .store 65 (.tmp 12) (.tmp 41), none, false⟩])
 (.seq (.seq (.reg [⟨some 42, .move (.tmp 2), none, false⟩,
   ⟨some 43, .load 65 (.tmp 12), none, false⟩,
   ⟨some 44, .call { callee := (.value (.tmp 42)), args := #[(.tmp 43)], argTypes := #[65] }, none, false⟩])
 (.cond (.tmp 44)
 (.seq (.reg [⟨some 6, .assign (.const (.bool true)), none, false⟩])
 (.ret))
 (.skip)))
 (.reg [⟨some 45, .move (.tmp 7), none, false⟩,
   ⟨some 46, .fieldAddr 65 (.tmp 12) 1, none, false⟩,
   ⟨some 47, .load 9 (.tmp 46), none, false⟩,
   ⟨some 48, .buildSlice 22 1 #[(0, (.tmp 47))], none, false⟩,
   ⟨some 50, .fieldAddr 65 (.tmp 12) 2, none, false⟩,
   ⟨some 51, .load 22 (.tmp 50), none, false⟩,
   ⟨some 49, .call { callee := (.builtin .append), args := #[(.tmp 45), (.tmp 48)], argTypes := #[22, 22] }, none, false⟩,
   ⟨some 51, .load 22 (.tmp 50), none, true⟩,
   ⟨some 52, .call { callee := (.builtin .append), args := #[(.tmp 49), (.tmp 51)], argTypes := #[22, 22] }, none, false⟩,
   ⟨some 7, .assign (.tmp 52), none, false⟩])))))))))))
 (.seq (.reg [⟨some 6, .assign (.const (.bool false)), none, false⟩])
 (.ret))))
def fr63 : FR := ⟨53, [.tmp 6], cc63⟩
theorem fnis63 : FnIs Tryz.prog 63 fr63 := ⟨Tryz.f63, _, [[0, 2, 7, 8]], [], Tryz.func63, rfl, by kernel_rfl, by kernel_rfl, by kernel_rfl, by kernel_rfl⟩
/-- function 64 -/
def cc64 : CC :=
 .seq (.reg [⟨some 2, .box 65 (.tmp 0), none, false⟩,
   ⟨some 3, .assign (.const (.bool false)), none, false⟩])
 (.seq (.reg [⟨some 4, .fieldAddr 65 (.tmp 2) 0, none, false⟩,
   ⟨some 5, .load 9 (.tmp 4), none, false⟩,
   ⟨some 6, .fieldAddr 65 (.tmp 1) 0, none, false⟩,
   ⟨some 7, .load 9 (.tmp 6), none, false⟩,
   ⟨some 8, .binOp .eql 9 (.tmp 5) (.tmp 7) 9, none, false⟩,
   ⟨some 3, .assign (.tmp 8), none, false⟩])
 (.ret))
def fr64 : FR := ⟨9, [.tmp 3], cc64⟩
theorem fnis64 : FnIs Tryz.prog 64 fr64 := ⟨Tryz.f64, _, [], [], Tryz.func64, rfl, by kernel_rfl, by kernel_rfl, by kernel_rfl, by kernel_rfl⟩
/-- function 65 -/
def cc65 : CC :=
 .seq (.reg [⟨some 4, .assign (.const (.bool false)), none, false⟩])
 (.seq (.reg [⟨some 5, .move (.tmp 0), none, false⟩,
   ⟨some 6, .move (.tmp 1), none, false⟩,
   ⟨some 7, .call { callee := (.value (.func 131)), args := #[(.tmp 5), (.tmp 6)], argTypes := #[22, 31] }, none, false⟩,
   ⟨some 8, .binOp .geq 3 (.tmp 7) (.const (.int .i64 0)) 3, none, false⟩,
   ⟨some 4, .assign (.tmp 8), none, false⟩])
 (.ret))
def fr65 : FR := ⟨9, [.tmp 4], cc65⟩
theorem fnis65 : FnIs Tryz.prog 65 fr65 := ⟨Tryz.f65, _, [], [], Tryz.func65, rfl, by kernel_rfl, by kernel_rfl, by kernel_rfl, by kernel_rfl⟩
/-- function 66 -/
def cc66 : CC :=
 .seq (.seq (.reg [⟨some 8, .move (.tmp 0), none, false⟩,
   ⟨some 9, .load 3 (.tmp 1), none, false⟩,
   ⟨some 10, .binOp .lss 3 (.tmp 8) (.tmp 9) 3, none, false⟩,
   ⟨some 11, .move (.tmp 10), none, false⟩,
   ⟨some 12, .load 42 (.tmp 2), some (11, false), false⟩,
   ⟨some 13, .move (.tmp 0), some (11, false), false⟩,
   ⟨some 14, .call { callee := (.value (.func 67)), args := #[(.tmp 12), (.tmp 13)], argTypes := #[42, 3] }, some (11, false), false⟩,
   ⟨some 15, .pick (.tmp 11) (.const (.bool true)) (.tmp 14), none, false⟩])
 (.cond (.tmp 15)
 (.ret)
 (.skip)))
 (.seq (.seq (.reg [⟨some 16, .load 25 (.tmp 3), none, false⟩,
   ⟨some 17, .nilCheck (.tmp 16), none, false⟩,
   ⟨some 18, .fieldAddr 61 (.tmp 17) 0, none, false⟩,
   ⟨some 19, .load 26 (.tmp 18), none, false⟩,
   ⟨some 20, .move (.tmp 0), none, false⟩,
   ⟨some 21, .indexAddr 26 (.tmp 19) (.tmp 20), none, false⟩,
   ⟨some 22, .fieldAddr 65 (.tmp 21) 1, none, false⟩,
   ⟨some 23, .load 9 (.tmp 22), none, false⟩,
   ⟨some 24, .buildSlice 22 1 #[(0, (.tmp 23))], none, false⟩,
   ⟨some 25, .load 25 (.tmp 3), none, false⟩,
   ⟨some 26, .nilCheck (.tmp 25), none, false⟩,
   ⟨some 27, .fieldAddr 61 (.tmp 26) 0, none, false⟩,
   ⟨some 28, .load 26 (.tmp 27), none, false⟩,
   ⟨some 29, .move (.tmp 0), none, false⟩,
   ⟨some 30, .indexAddr 26 (.tmp 28) (.tmp 29), none, false⟩,
   ⟨some 31, .fieldAddr 65 (.tmp 30) 2, none, false⟩,
   ⟨some 32, .load 22 (.tmp 31), none, false⟩,
   ⟨some 35, .move (.const (.int .i64 0)), none, false⟩,
   ⟨some 33, .call { callee := (.builtin .append), args := #[(.tmp 24), (.tmp 32)], argTypes := #[22, 22] }, none, false⟩,
   ⟨some 34, .call { callee := (.builtin .len), args := #[(.tmp 33)], argTypes := #[22] }, none, false⟩])
 (.block 0
 (.loop [0, 2, 3, 4, 33, 34, 35]
 (.seq (.reg [⟨some 36, .binOp .lss 3 (.tmp 35) (.tmp 34) 3, none, false⟩])
 (.seq (.cond (.tmp 36)
 (.skip)
 (.exit 0))
 (.seq (.block 1
 (.seq (.reg [⟨some 37, .indexAddr 22 (.tmp 33) (.tmp 35), none, false⟩,
   ⟨some 38, .load 9 (.tmp 37), none, false⟩,
   ⟨some 7, .assign (.tmp 38), none, false⟩])
 (.reg [⟨some 39, .load 107 (.tmp 4), none, false⟩,
   ⟨some 40, .load 25 (.tmp 3), none, false⟩,
   ⟨some 41, .nilCheck (.tmp 40), none, false⟩,
   ⟨some 42, .fieldAddr 61 (.tmp 41) 1, none, false⟩,
   ⟨some 43, .load 59 (.tmp 42), none, false⟩,
   ⟨some 44, .move (.tmp 7), none, false⟩,
   ⟨some 45, .lookup 59 (.tmp 43) (.tmp 44) false, none, false⟩,
   ⟨some 46, .call { callee := (.value (.tmp 39)), args := #[(.tmp 45)], argTypes := #[3] }, none, false⟩])))
 (.reg [⟨some 47, .binOp .add 3 (.tmp 35) (.const (.int .i64 1)) 3, none, false⟩,
   ⟨some 35, .move (.tmp 47), none, false⟩])))))))
 (.reg [⟨some 48, .load 42 (.tmp 2), none, false⟩,
   ⟨some 49, .move (.tmp 0), none, false⟩,
   ⟨some 50, .buildSlice 42 1 #[(0, (.tmp 49))], none, false⟩,
   ⟨some 51, .call { callee := (.builtin .append), args := #[(.tmp 48), (.tmp 50)], argTypes := #[42, 42] }, none, false⟩,
   ⟨none, .store 42 (.tmp 2) (.tmp 51), none, false⟩]))
def fr66 : FR := ⟨52, [], cc66⟩
theorem fnis66 : FnIs Tryz.prog 66 fr66 := ⟨Tryz.f66, _, [[0, 2, 3, 4, 33, 34, 35]], [], Tryz.func66, rfl, by kernel_rfl, by kernel_rfl, by kernel_rfl, by kernel_rfl⟩
/-- function 67 -/
def cc67 : CC :=
 .seq (.reg [⟨some 4, .assign (.const (.bool false)), none, false⟩])
 (.seq (.reg [⟨some 5, .move (.tmp 0), none, false⟩,
   ⟨some 6, .move (.tmp 1), none, false⟩,
   ⟨some 7, .call { callee := (.value (.func 132)), args := #[(.tmp 5), (.tmp 6)], argTypes := #[42, 3] }, none, false⟩,
   ⟨some 8, .binOp .geq 3 (.tmp 7) (.const (.int .i64 0)) 3, none, false⟩,
   ⟨some 4, .assign (.tmp 8), none, false⟩])
 (.ret))
def fr67 : FR := ⟨9, [.tmp 4], cc67⟩
theorem fnis67 : FnIs Tryz.prog 67 fr67 := ⟨Tryz.f67, _, [], [], Tryz.func67, rfl, by kernel_rfl, by kernel_rfl, by kernel_rfl, by kernel_rfl⟩
/-- function 68 -/
def cc68 : CC :=
 .seq (.reg [⟨some 5, .box 9 (.tmp 2), none, false⟩,
   ⟨some 6, .assign (.const (.int .i64 0)), none, false⟩])
 (.seq (.reg [⟨some 7, .move (.tmp 0), none, false⟩,
   ⟨some 8, .move (.tmp 1), none, false⟩,
   ⟨some 9, .call { callee := (.value (.func 134)), args := #[(.tmp 7), (.tmp 8)], argTypes := #[25, 9] }, none, false⟩,
   ⟨some 10, .makeFunc (.func 135) #[] #[(.tmp 5)], none, false⟩,
   ⟨some 11, .call { callee := (.value (.func 133)), args := #[(.tmp 9), (.tmp 10)], argTypes := #[62, 136] }, none, false⟩,
   ⟨some 6, .assign (.tmp 11), none, false⟩])
 (.ret))
def fr68 : FR := ⟨12, [.tmp 6], cc68⟩
theorem fnis68 : FnIs Tryz.prog 68 fr68 := ⟨Tryz.f68, _, [], [], Tryz.func68, rfl, by kernel_rfl, by kernel_rfl, by kernel_rfl, by kernel_rfl⟩
/-- function 69 -/
def cc69 : CC :=
 .seq (.reg [⟨some 3, .assign (.const (.bool false)), none, false⟩])
 (.seq (.reg [⟨some 4, .move (.tmp 0), none, false⟩,
   ⟨some 5, .binOp .neq 9 (.tmp 4) (.const (.string { data := #[110, 117, 108, 108] })) 9, none, false⟩,
   ⟨some 6, .move (.tmp 5), none, false⟩,
   ⟨some 7, .load 25 (.tmp 1), some (6, true), false⟩,
   ⟨some 8, .move (.tmp 0), some (6, true), false⟩,
   ⟨some 9, .call { callee := (.value (.func 9)), args := #[(.tmp 7), (.tmp 8)], argTypes := #[25, 9] }, some (6, true), false⟩,
   ⟨some 10, .pick (.tmp 6) (.tmp 9) (.const (.bool false)), none, false⟩,
   ⟨some 3, .assign (.tmp 10), none, false⟩])
 (.ret))
def fr69 : FR := ⟨11, [.tmp 3], cc69⟩
theorem fnis69 : FnIs Tryz.prog 69 fr69 := ⟨Tryz.f69, _, [], [], Tryz.func69, rfl, by kernel_rfl, by kernel_rfl, by kernel_rfl, by kernel_rfl⟩
/-- function 70 -/
def cc70 : CC :=
 .seq (.reg [⟨some 3, .assign (.const (.bool false)), none, false⟩])
 (.seq (.reg [⟨some 4, .load 31 (.tmp 1), none, false⟩,
   ⟨some 5, .move (.tmp 0), none, false⟩,
   ⟨some 6, .call { callee := (.value (.tmp 4)), args := #[(.tmp 5)], argTypes := #[9] }, none, false⟩,
   ⟨some 7, .unOp .not 4 (.tmp 6), none, false⟩,
   ⟨some 3, .assign (.tmp 7), none, false⟩])
 (.ret))
def fr70 : FR := ⟨8, [.tmp 3], cc70⟩
theorem fnis70 : FnIs Tryz.prog 70 fr70 := ⟨Tryz.f70, _, [], [], Tryz.func70, rfl, by kernel_rfl, by kernel_rfl, by kernel_rfl, by kernel_rfl⟩
/-- function 71 -/
def cc71 : CC :=
 .seq (.reg [⟨some 3, .box 65 (.tmp 0), none, false⟩,
   ⟨some 4, .assign (.const (.bool false)), none, false⟩])
 (.seq (.reg [⟨some 5, .fieldAddr 65 (.tmp 3) 7, none, false⟩,
   ⟨some 6, .load 63 (.tmp 5), none, false⟩,
   ⟨some 7, .makeFunc (.func 73) #[] #[(.tmp 1), (.tmp 3), (.tmp 2)], none, false⟩,
   ⟨some 8, .call { callee := (.value (.func 72)), args := #[(.tmp 6), (.tmp 7)], argTypes := #[63, 114] }, none, false⟩,
   ⟨some 4, .assign (.tmp 8), none, false⟩])
 (.ret))
def fr71 : FR := ⟨9, [.tmp 4], cc71⟩
theorem fnis71 : FnIs Tryz.prog 71 fr71 := ⟨Tryz.f71, _, [], [], Tryz.func71, rfl, by kernel_rfl, by kernel_rfl, by kernel_rfl, by kernel_rfl⟩
/-- function 72 -/
def cc72 : CC :=
 .seq (.reg [⟨some 4, .assign (.const (.bool false)), none, false⟩])
 (.seq (.reg [⟨some 5, .move (.tmp 0), none, false⟩,
   ⟨some 6, .move (.tmp 1), none, false⟩,
   ⟨some 7, .call { callee := (.value (.func 136)), args := #[(.tmp 5), (.tmp 6)], argTypes := #[63, 114] }, none, false⟩,
   ⟨some 8, .binOp .geq 3 (.tmp 7) (.const (.int .i64 0)) 3, none, false⟩,
   ⟨some 4, .assign (.tmp 8), none, false⟩])
 (.ret))
def fr72 : FR := ⟨9, [.tmp 4], cc72⟩
theorem fnis72 : FnIs Tryz.prog 72 fr72 := ⟨Tryz.f72, _, [], [], Tryz.func72, rfl, by kernel_rfl, by kernel_rfl, by kernel_rfl, by kernel_rfl⟩
/-- function 73 -/
def cc73 : CC :=
 .seq (.reg [⟨some 4, .box 39 (.tmp 0), none, false⟩,
   ⟨some 5, .assign (.const (.bool false)), none, false⟩])
 (.seq (.reg [⟨some 9, .load 110 (.tmp 1), none, false⟩,
   ⟨some 10, .fieldAddr 39 (.tmp 4) 0, none, false⟩,
   ⟨some 11, .load 9 (.tmp 10), none, false⟩,
   ⟨some 12, .lookup 110 (.tmp 9) (.tmp 11) true, none, false⟩,
   ⟨some 8, .move (.tmp 12), none, false⟩,
   ⟨some 13, .extract (.tmp 8) 0, none, false⟩,
   ⟨some 14, .extract (.tmp 8) 1, none, false⟩,
   ⟨some 6, .assign (.tmp 13), none, false⟩,
   ⟨some 7, .assign (.tmp 14), none, false⟩])
 (.seq (.reg [⟨some 15, .load 110 (.tmp 1), none, false⟩,
   ⟨some 16, .fieldAddr 39 (.tmp 4) 0, none, false⟩,
   ⟨some 17, .load 9 (.tmp 16), none, false⟩,
   ⟨some 18, .load 110 (.tmp 3), none, false⟩,
   ⟨some 19, .fieldAddr 39 (.tmp 4) 0, none, false⟩,
   ⟨some 20, .load 9 (.tmp 19), none, false⟩,
   ⟨some 21, .load 39 (.tmp 4), none, false⟩,
   ⟨some 23, .fieldAddr 65 (.tmp 2) 0, none, false⟩,
   ⟨some 24, .load 9 (.tmp 23), none, false⟩,
   ⟨some 22, .call { callee := (.value (.func 74)), args := #[(.tmp 21)], argTypes := #[39] }, none, false⟩,
   ⟨some 15, .load 110 (.tmp 1), none, true⟩,
   ⟨some 17, .load 9 (.tmp 16), none, true⟩,
   ⟨some 18, .load 110 (.tmp 3), none, true⟩,
   ⟨some 20, .load 9 (.tmp 19), none, true⟩,
   ⟨some 24, .load 9 (.tmp 23), none, true⟩,
   ⟨some 25, .mapEntry 110 (.tmp 15) (.tmp 17), none, false⟩,
   ⟨some 18, .load 110 (.tmp 3), none, true⟩,
   ⟨some 20, .load 9 (.tmp 19), none, true⟩,
   ⟨some 24, .load 9 (.tmp 23), none, true⟩,
   ⟨some 26, .extract (.tmp 25) 1, none, false⟩,
   ⟨none, .entryStore 110 (.tmp 15) (.tmp 26) (.tmp 22), none, false⟩,
   ⟨some 18, .load 110 (.tmp 3), none, true⟩,
   ⟨some 20, .load 9 (.tmp 19), none, true⟩,
   ⟨some 24, .load 9 (.tmp 23), none, true⟩,
   ⟨none, .mapUpdate 110 (.tmp 18) (.tmp 20) (.tmp 24), none, false⟩])
 (.seq (.reg [⟨some 27, .move (.tmp 7), none, false⟩,
   ⟨some 28, .move (.tmp 27), none, false⟩,
   ⟨some 29, .move (.tmp 6), some (28, true), false⟩,
   ⟨some 30, .load 39 (.tmp 4), some (28, true), false⟩,
   ⟨some 31, .call { callee := (.value (.func 74)), args := #[(.tmp 30)], argTypes := #[39] }, some (28, true), false⟩,
   ⟨some 32, .binOp .neq 9 (.tmp 29) (.tmp 31) 9, some (28, true), false⟩,
   ⟨some 33, .pick (.tmp 28) (.tmp 32) (.const (.bool false)), none, false⟩,
   ⟨some 5, .assign (.tmp 33), none, false⟩])
 (.ret))))
def fr73 : FR := ⟨34, [.tmp 5], cc73⟩
theorem fnis73 : FnIs Tryz.prog 73 fr73 := ⟨Tryz.f73, _, [], [], Tryz.func73, rfl, by kernel_rfl, by kernel_rfl, by kernel_rfl, by kernel_rfl⟩
/-- function 74 -/
def cc74 : CC :=
 .seq (.reg [⟨some 1, .box 39 (.tmp 0), none, false⟩,
   ⟨some 2, .assign (.const (.string { data := #[] })), none, false⟩])
 (.seq (.reg [⟨some 3, .fieldAddr 39 (.tmp 1) 1, none, false⟩,
   ⟨some 4, .load 22 (.tmp 3), none, false⟩,
   ⟨some 8, .fieldAddr 39 (.tmp 1) 2, none, false⟩,
   ⟨some 9, .load 9 (.tmp 8), none, false⟩,
   ⟨some 5, .call { callee := (.value (.func 137)), args := #[(.tmp 4), (.const (.string { data := #[44] }))], argTypes := #[22, 9] }, none, false⟩,
   ⟨some 9, .load 9 (.tmp 8), none, true⟩,
   ⟨some 6, .binOp .add 9 (.const (.string { data := #[40] })) (.tmp 5) 9, none, false⟩,
   ⟨some 7, .binOp .add 9 (.tmp 6) (.const (.string { data := #[41] })) 9, none, false⟩,
   ⟨some 10, .binOp .add 9 (.tmp 7) (.tmp 9) 9, none, false⟩,
   ⟨some 2, .assign (.tmp 10), none, false⟩])
 (.ret))
def fr74 : FR := ⟨11, [.tmp 2], cc74⟩
theorem fnis74 : FnIs Tryz.prog 74 fr74 := ⟨Tryz.f74, _, [], [], Tryz.func74, rfl, by kernel_rfl, by kernel_rfl, by kernel_rfl, by kernel_rfl⟩
/-- function 75 -/
def cc75 : CC :=
 .seq (.reg [⟨some 6, .assign (.const (.string { data := #[] })), none, false⟩,
   ⟨some 7, .alloc 39, none, false⟩,
   ⟨some 8, .assign (.const (.bool false)), none, false⟩])
 (.seq (.reg [⟨some 19, .move (.tmp 0), none, false⟩,
   ⟨some 20, .move (.tmp 1), none, false⟩,
   ⟨some 21, .call { callee := (.value (.func 138)), args := #[(.tmp 19), (.tmp 20)], argTypes := #[25, 9] }, none, false⟩,
   ⟨some 9, .assign (.tmp 21), none, false⟩])
 (.seq (.reg [⟨some 22, .move (.tmp 9), none, false⟩,
   ⟨some 23, .call { callee := (.value (.func 139)), args := #[(.tmp 22)], argTypes := #[26] }, none, false⟩])
 (.seq (.seq (.reg [⟨some 24, .move (.tmp 9), none, false⟩,
   ⟨some 25, .call { callee := (.builtin .len), args := #[(.tmp 24)], argTypes := #[26] }, none, false⟩,
   ⟨some 26, .move (.const (.int .i64 0)), none, false⟩])
 (.block 0
 (.loop [0, 2, 7, 9, 24, 25, 26]
 (.seq (.reg [⟨some 27, .binOp .lss 3 (.tmp 26) (.tmp 25) 3, none, false⟩])
 (.seq (.cond (.tmp 27)
 (.skip)
 (.exit 0))
 (.seq (.block 1
 (.seq (.reg [⟨some 28, .indexAddr 26 (.tmp 24) (.tmp 26), none, false⟩,
   ⟨some 29, .load 65 (.tmp 28), none, false⟩,
   ⟨some 11, .alloc 65, none, false⟩,
   ⟨none, .store 65 (.tmp 11) (.tmp 29), none, false⟩])
 (.seq (.reg [⟨some 31, .load 65 (.tmp 11), none, false⟩,
   ⟨some 32, .move (.tmp 2), none, false⟩,
   ⟨some 33, .call { callee := (.value (.func 140)), args := #[(.tmp 31), (.tmp 32)], argTypes := #[65, 9] }, none, false⟩,
   ⟨some 30, .move (.tmp 33), none, false⟩,
   ⟨some 34, .extract (.tmp 30) 0, none, false⟩,
   ⟨some 35, .extract (.tmp 30) 1, none, false⟩,
   ⟨some 12, .alloc 39, none, false⟩,
   ⟨none, .store 39 (.tmp 12) (.tmp 34), none, false⟩,
   ⟨some 13, .assign (.tmp 35), none, false⟩])
 (.seq (.reg [⟨some 36, .move (.tmp 13), none, false⟩])
 (.cond (.tmp 36)
 (.seq (.reg [⟨some 37, .fieldAddr 65 (.tmp 11) 0, none, false⟩,
   ⟨some 38, .load 9 (.tmp 37), none, false⟩,
   ⟨some 39, .load 39 (.tmp 12), none, false⟩,
   ⟨some 6, .assign (.tmp 38), none, false⟩,
   ⟨none, .store 39 (.tmp 7) (.tmp 39), none, false⟩,
   ⟨some 8, .assign (.const (.bool true)), none, false⟩])
 (.ret))
 (.skip))))))
 (.reg [⟨some 40, .binOp .add 3 (.tmp 26) (.const (.int .i64 1)) 3, none, false⟩,
   ⟨some 26, .move (.tmp 40), none, false⟩])))))))
 (.seq (.seq (.reg [⟨some 41, .move (.tmp 9), none, false⟩,
   ⟨some 42, .call { callee := (.builtin .len), args := #[(.tmp 41)], argTypes := #[26] }, none, false⟩,
   ⟨some 43, .move (.const (.int .i64 0)), none, false⟩])
 (.block 2
 (.loop [0, 2, 7, 41, 42, 43]
 (.seq (.reg [⟨some 44, .binOp .lss 3 (.tmp 43) (.tmp 42) 3, none, false⟩])
 (.seq (.cond (.tmp 44)
 (.skip)
 (.exit 2))
 (.seq (.block 3
 (.seq (.reg [⟨some 45, .indexAddr 26 (.tmp 41) (.tmp 43), none, false⟩,
   ⟨some 46, .load 65 (.tmp 45), none, false⟩,
   ⟨some 15, .alloc 65, none, false⟩,
   ⟨none, .store 65 (.tmp 15) (.tmp 46), none, false⟩])
 (.seq (.reg [⟨some 48, .move (.tmp 0), none, false⟩,
   ⟨some 49, .load 65 (.tmp 15), none, false⟩,
   ⟨some 50, .move (.tmp 2), none, false⟩,
   ⟨some 51, .call { callee := (.value (.func 141)), args := #[(.tmp 48), (.tmp 49), (.tmp 50)], argTypes := #[25, 65, 9] }, none, false⟩,
   ⟨some 47, .move (.tmp 51), none, false⟩,
   ⟨some 52, .extract (.tmp 47) 0, none, false⟩,
   ⟨some 53, .extract (.tmp 47) 1, none, false⟩,
   ⟨some 54, .extract (.tmp 47) 2, none, false⟩,
   ⟨some 17, .alloc 39, none, false⟩,
   ⟨some 16, .assign (.tmp 52), none, false⟩,
   ⟨none, .store 39 (.tmp 17) (.tmp 53), none, false⟩,
   ⟨some 18, .assign (.tmp 54), none, false⟩])
 (.seq (.reg [⟨some 55, .move (.tmp 18), none, false⟩])
 (.cond (.tmp 55)
 (.seq (.reg [⟨some 56, .move (.tmp 16), none, false⟩,
   ⟨some 57, .load 39 (.tmp 17), none, false⟩,
   ⟨some 6, .assign (.tmp 56), none, false⟩,
   ⟨none, .store 39 (.tmp 7) (.tmp 57), none, false⟩,
   ⟨some 8, .assign (.const (.bool true)), none, false⟩])
 (.ret))
 (.skip))))))
 (.reg [⟨some 58, .binOp .add 3 (.tmp 43) (.const (.int .i64 1)) 3, none, false⟩,
   ⟨some 43, .move (.tmp 58), none, false⟩])))))))
 (.seq (.reg [⟨some 59, .build 39 #[], none, false⟩,
   ⟨some 6, .assign (.const (.string { data := #[] })), none, false⟩,
   ⟨none, .store 39 (.tmp 7) (.tmp 59), none, false⟩,
   ⟨some 8, .assign (.const (.bool false)), none, false⟩])
 (.ret))))))
def fr75 : FR := ⟨60, [.tmp 6, .cell 7 39, .tmp 8], cc75⟩
theorem fnis75 : FnIs Tryz.prog 75 fr75 := ⟨Tryz.f75, _, [[0, 2, 7, 9, 24, 25, 26], [0, 2, 7, 41, 42, 43]], [], Tryz.func75, rfl, by kernel_rfl, by kernel_rfl, by kernel_rfl, by kernel_rfl⟩
/-- function 76 -/
def cc76 : CC :=
 .seq (.reg [⟨some 1, .box 65 (.tmp 0), none, false⟩,
   ⟨some 2, .assign (.const (.bool false)), none, false⟩])
 (.seq (.seq (.reg [⟨some 3, .assign (.const (.int .i64 0)), none, false⟩])
 (.block 0
 (.loop [1, 3]
 (.seq (.seq (.reg [⟨some 5, .move (.tmp 3), none, false⟩,
   ⟨some 6, .fieldAddr 65 (.tmp 1) 7, none, false⟩,
   ⟨some 7, .load 63 (.tmp 6), none, false⟩,
   ⟨some 8, .call { callee := (.builtin .len), args := #[(.tmp 7)], argTypes := #[63] }, none, false⟩,
   ⟨some 9, .binOp .lss 3 (.tmp 5) (.tmp 8) 3, none, false⟩])
 (.cond (.tmp 9)
 (.skip)
 (.exit 0)))
 (.seq (.block 1
 (.seq (.reg [⟨some 12, .fieldAddr 65 (.tmp 1) 7, none, false⟩,
   ⟨some 13, .load 63 (.tmp 12), none, false⟩,
   ⟨some 14, .move (.tmp 3), none, false⟩,
   ⟨some 15, .indexAddr 63 (.tmp 13) (.tmp 14), none, false⟩,
   ⟨some 16, .load 39 (.tmp 15), none, false⟩,
   ⟨some 4, .alloc 39, none, false⟩,
   ⟨none, .store 39 (.tmp 4) (.tmp 16), none, false⟩])
 (.seq (.reg [⟨some 17, .fieldAddr 39 (.tmp 4) 1, none, false⟩,
   ⟨some 18, .load 22 (.tmp 17), none, false⟩,
   ⟨some 19, .call { callee := (.builtin .len), args := #[(.tmp 18)], argTypes := #[22] }, none, false⟩,
   ⟨some 20, .binOp .gtr 3 (.tmp 19) (.const (.int .i64 32)) 3, none, false⟩,
   ⟨some 21, .move (.tmp 20), none, false⟩,
   ⟨some 22, .fieldAddr 39 (.tmp 4) 6, some (21, false), false⟩,
   ⟨some 23, .load 37 (.tmp 22), some (21, false), false⟩,
   ⟨some 24, .call { callee := (.builtin .len), args := #[(.tmp 23)], argTypes := #[37] }, some (21, false), false⟩,
   ⟨some 25, .binOp .gtr 3 (.tmp 24) (.const (.int .i64 32)) 3, some (21, false), false⟩,
   ⟨some 26, .pick (.tmp 21) (.const (.bool true)) (.tmp 25), none, false⟩,
   ⟨some 27, .move (.tmp 26), none, false⟩,
   ⟨some 28, .fieldAddr 39 (.tmp 4) 5, some (27, false), false⟩,
   ⟨some 29, .load 36 (.tmp 28), some (27, false), false⟩,
   ⟨some 30, .call { callee := (.builtin .len), args := #[(.tmp 29)], argTypes := #[36] }, some (27, false), false⟩,
   ⟨some 31, .binOp .gtr 3 (.tmp 30) (.const (.int .i64 200)) 3, some (27, false), false⟩,
   ⟨some 32, .pick (.tmp 27) (.const (.bool true)) (.tmp 31), none, false⟩,
   ⟨some 33, .move (.tmp 32), none, false⟩,
   ⟨some 34, .fieldAddr 39 (.tmp 4) 4, some (33, false), false⟩,
   ⟨some 35, .load 3 (.tmp 34), some (33, false), false⟩,
   ⟨some 36, .binOp .gtr 3 (.tmp 35) (.const (.int .i64 64)) 3, some (33, false), false⟩,
   ⟨some 37, .pick (.tmp 33) (.const (.bool true)) (.tmp 36), none, false⟩])
 (.cond (.tmp 37)
 (.seq (.reg [⟨some 2, .assign (.const (.bool true)), none, false⟩])
 (.ret))
 (.skip)))))
 (.reg [⟨some 10, .move (.tmp 3), none, false⟩,
   ⟨some 11, .binOp .add 3 (.tmp 10) (.const (.int .i64 1)) 3, none, false⟩,
   ⟨some 3, .assign (.tmp 11), none, false⟩]))))))
 (.seq (.reg [⟨some 38, .fieldAddr 65 (.tmp 1) 2, none, false⟩,
   ⟨some 39, .load 22 (.tmp 38), none, false⟩,
   ⟨some 40, .call { callee := (.builtin .len), args := #[(.tmp 39)], argTypes := #[22] }, none, false⟩,
   ⟨some 41, .binOp .gtr 3 (.tmp 40) (.const (.int .i64 32)) 3, none, false⟩,
   ⟨some 42, .move (.tmp 41), none, false⟩,
   ⟨some 43, .fieldAddr 65 (.tmp 1) 6, some (42, false), false⟩,
   ⟨some 44, .load 62 (.tmp 43), some (42, false), false⟩,
   ⟨some 45, .call { callee := (.builtin .len), args := #[(.tmp 44)], argTypes := #[62] }, some (42, false), false⟩,
   ⟨some 46, .binOp .gtr 3 (.tmp 45) (.const (.int .i64 32)) 3, some (42, false), false⟩,
   ⟨some 47, .pick (.tmp 42) (.const (.bool true)) (.tmp 46), none, false⟩,
   ⟨some 48, .move (.tmp 47), none, false⟩,
   ⟨some 49, .fieldAddr 65 (.tmp 1) 7, some (48, false), false⟩,
   ⟨some 50, .load 63 (.tmp 49), some (48, false), false⟩,
   ⟨some 51, .call { callee := (.builtin .len), args := #[(.tmp 50)], argTypes := #[63] }, some (48, false), false⟩,
   ⟨some 52, .binOp .gtr 3 (.tmp 51) (.const (.int .i64 32)) 3, some (48, false), false⟩,
   ⟨some 53, .pick (.tmp 48) (.const (.bool true)) (.tmp 52), none, false⟩,
   ⟨some 2, .assign (.tmp 53), none, false⟩])
 (.ret)))
def fr76 : FR := ⟨54, [.tmp 2], cc76⟩
theorem fnis76 : FnIs Tryz.prog 76 fr76 := ⟨Tryz.f76, _, [[1, 3]], [], Tryz.func76, rfl, by kernel_rfl, by kernel_rfl, by kernel_rfl, by kernel_rfl⟩
/-- function 77 -/
def cc77 : CC :=
 .seq (.reg [⟨some 1, .box 65 (.tmp 0), none, false⟩,
   ⟨some 2, .assign (.const (.bool false)), none, false⟩])
 (.seq (.reg [⟨some 11, .fieldAddr 65 (.tmp 1) 0, none, false⟩,
   ⟨some 12, .load 9 (.tmp 11), none, false⟩,
   ⟨some 13, .call { callee := (.value (.func 142)), args := #[(.tmp 12)], argTypes := #[9] }, none, false⟩,
   ⟨some 14, .move (.tmp 13), none, false⟩,
   ⟨some 15, .fieldAddr 65 (.tmp 1) 1, some (14, true), false⟩,
   ⟨some 16, .load 9 (.tmp 15), some (14, true), false⟩,
   ⟨some 17, .call { callee := (.value (.func 142)), args := #[(.tmp 16)], argTypes := #[9] }, some (14, true), false⟩,
   ⟨some 18, .pick (.tmp 14) (.tmp 17) (.const (.bool false)), none, false⟩,
   ⟨some 19, .move (.tmp 18), none, false⟩,
   ⟨some 20, .fieldAddr 65 (.tmp 1) 0, some (19, true), false⟩,
   ⟨some 21, .load 9 (.tmp 20), some (19, true), false⟩,
   ⟨some 22, .fieldAddr 65 (.tmp 1) 1, some (19, true), false⟩,
   ⟨some 23, .load 9 (.tmp 22), some (19, true), false⟩,
   ⟨some 24, .binOp .neq 9 (.tmp 21) (.tmp 23) 9, some (19, true), false⟩,
   ⟨some 25, .pick (.tmp 19) (.tmp 24) (.const (.bool false)), none, false⟩,
   ⟨some 3, .assign (.tmp 25), none, false⟩])
 (.seq (.seq (.reg [⟨some 4, .assign (.const (.int .i64 0)), none, false⟩])
 (.block 0
 (.loop [1, 3, 4]
 (.seq (.seq (.reg [⟨some 26, .move (.tmp 4), none, false⟩,
   ⟨some 27, .fieldAddr 65 (.tmp 1) 2, none, false⟩,
   ⟨some 28, .load 22 (.tmp 27), none, false⟩,
   ⟨some 29, .call { callee := (.builtin .len), args := #[(.tmp 28)], argTypes := #[22] }, none, false⟩,
   ⟨some 30, .binOp .lss 3 (.tmp 26) (.tmp 29) 3, none, false⟩])
 (.cond (.tmp 30)
 (.skip)
 (.exit 0)))
 (.seq (.block 1
 (.seq (.reg [⟨some 33, .move (.tmp 3), none, false⟩,
   ⟨some 34, .move (.tmp 33), none, false⟩,
   ⟨some 35, .fieldAddr 65 (.tmp 1) 2, some (34, true), false⟩,
   ⟨some 36, .load 22 (.tmp 35), some (34, true), false⟩,
   ⟨some 37, .move (.tmp 4), some (34, true), false⟩,
   ⟨some 38, .indexAddr 22 (.tmp 36) (.tmp 37), some (34, true), false⟩,
   ⟨some 39, .load 9 (.tmp 38), some (34, true), false⟩,
   ⟨some 40, .call { callee := (.value (.func 142)), args := #[(.tmp 39)], argTypes := #[9] }, some (34, true), false⟩,
   ⟨some 41, .pick (.tmp 34) (.tmp 40) (.const (.bool false)), none, false⟩,
   ⟨some 42, .move (.tmp 41), none, false⟩,
   ⟨some 43, .fieldAddr 65 (.tmp 1) 2, some (42, true), false⟩,
   ⟨some 44, .load 22 (.tmp 43), some (42, true), false⟩,
   ⟨some 45, .move (.tmp 4), some (42, true), false⟩,
   ⟨some 46, .indexAddr 22 (.tmp 44) (.tmp 45), some (42, true), false⟩,
   ⟨some 47, .load 9 (.tmp 46), some (42, true), false⟩,
   ⟨some 48, .fieldAddr 65 (.tmp 1) 0, some (42, true), false⟩,
   ⟨some 49, .load 9 (.tmp 48), some (42, true), false⟩,
   ⟨some 50, .binOp .neq 9 (.tmp 47) (.tmp 49) 9, some (42, true), false⟩,
   ⟨some 51, .pick (.tmp 42) (.tmp 50) (.const (.bool false)), none, false⟩,
   ⟨some 3, .assign (.tmp 51), none, false⟩])
 (.seq (.reg [⟨some 5, .assign (.const (.int .i64 0)), none, false⟩])
 (.block 2
 (.loop [1, 3, 4, 5]
 (.seq (.seq (.reg [⟨some 52, .move (.tmp 5), none, false⟩,
   ⟨some 53, .move (.tmp 4), none, false⟩,
   ⟨some 54, .binOp .lss 3 (.tmp 52) (.tmp 53) 3, none, false⟩])
 (.cond (.tmp 54)
 (.skip)
 (.exit 2)))
 (.seq (.block 3
 (.reg [⟨some 57, .move (.tmp 3), none, false⟩,
   ⟨some 58, .move (.tmp 57), none, false⟩,
   ⟨some 59, .fieldAddr 65 (.tmp 1) 2, some (58, true), false⟩,
   ⟨some 60, .load 22 (.tmp 59), some (58, true), false⟩,
   ⟨some 61, .move (.tmp 5), some (58, true), false⟩,
   ⟨some 62, .indexAddr 22 (.tmp 60) (.tmp 61), some (58, true), false⟩,
   ⟨some 63, .load 9 (.tmp 62), some (58, true), false⟩,
   ⟨some 64, .fieldAddr 65 (.tmp 1) 2, some (58, true), false⟩,
   ⟨some 65, .load 22 (.tmp 64), some (58, true), false⟩,
   ⟨some 66, .move (.tmp 4), some (58, true), false⟩,
   ⟨some 67, .indexAddr 22 (.tmp 65) (.tmp 66), some (58, true), false⟩,
   ⟨some 68, .load 9 (.tmp 67), some (58, true), false⟩,
   ⟨some 69, .binOp .neq 9 (.tmp 63) (.tmp 68) 9, some (58, true), false⟩,
   ⟨some 70, .pick (.tmp 58) (.tmp 69) (.const (.bool false)), none, false⟩,
   ⟨some 3, .assign (.tmp 70), none, false⟩]))
 (.reg [⟨some 55, .move (.tmp 5), none, false⟩,
   ⟨some 56, .binOp .add 3 (.tmp 55) (.const (.int .i64 1)) 3, none, false⟩,
   ⟨some 5, .assign (.tmp 56), none, false⟩]))))))))
 (.reg [⟨some 31, .move (.tmp 4), none, false⟩,
   ⟨some 32, .binOp .add 3 (.tmp 31) (.const (.int .i64 1)) 3, none, false⟩,
   ⟨some 4, .assign (.tmp 32), none, false⟩]))))))
 (.seq (.seq (.reg [⟨some 6, .assign (.const (.int .i64 0)), none, false⟩])
 (.block 4
 (.loop [1, 3, 6]
 (.seq (.seq (.reg [⟨some 71, .move (.tmp 6), none, false⟩,
   ⟨some 72, .fieldAddr 65 (.tmp 1) 6, none, false⟩,
   ⟨some 73, .load 62 (.tmp 72), none, false⟩,
   ⟨some 74, .call { callee := (.builtin .len), args := #[(.tmp 73)], argTypes := #[62] }, none, false⟩,
   ⟨some 75, .binOp .lss 3 (.tmp 71) (.tmp 74) 3, none, false⟩])
 (.cond (.tmp 75)
 (.skip)
 (.exit 4)))
 (.seq (.block 5
 (.seq (.reg [⟨some 78, .move (.tmp 3), none, false⟩,
   ⟨some 79, .move (.tmp 78), none, false⟩,
   ⟨some 80, .fieldAddr 65 (.tmp 1) 6, some (79, true), false⟩,
   ⟨some 81, .load 62 (.tmp 80), some (79, true), false⟩,
   ⟨some 82, .move (.tmp 6), some (79, true), false⟩,
   ⟨some 83, .indexAddr 62 (.tmp 81) (.tmp 82), some (79, true), false⟩,
   ⟨some 84, .fieldAddr 72 (.tmp 83) 0, some (79, true), false⟩,
   ⟨some 85, .load 9 (.tmp 84), some (79, true), false⟩,
   ⟨some 86, .call { callee := (.value (.func 143)), args := #[(.tmp 85)], argTypes := #[9] }, some (79, true), false⟩,
   ⟨some 87, .pick (.tmp 79) (.tmp 86) (.const (.bool false)), none, false⟩,
   ⟨some 88, .move (.tmp 87), none, false⟩,
   ⟨some 89, .fieldAddr 65 (.tmp 1) 6, some (88, true), false⟩,
   ⟨some 90, .load 62 (.tmp 89), some (88, true), false⟩,
   ⟨some 91, .move (.tmp 6), some (88, true), false⟩,
   ⟨some 92, .indexAddr 62 (.tmp 90) (.tmp 91), some (88, true), false⟩,
   ⟨some 93, .fieldAddr 72 (.tmp 92) 1, some (88, true), false⟩,
   ⟨some 94, .load 9 (.tmp 93), some (88, true), false⟩,
   ⟨some 95, .call { callee := (.value (.func 144)), args := #[(.tmp 94)], argTypes := #[9] }, some (88, true), false⟩,
   ⟨some 96, .pick (.tmp 88) (.tmp 95) (.const (.bool false)), none, false⟩,
   ⟨some 97, .move (.tmp 96), none, false⟩,
   ⟨some 98, .fieldAddr 65 (.tmp 1) 3, some (97, true), false⟩,
   ⟨some 99, .load 4 (.tmp 98), some (97, true), false⟩,
   ⟨some 100, .unOp .not 4 (.tmp 99), some (97, true), false⟩,
   ⟨some 101, .pick (.tmp 97) (.tmp 100) (.const (.bool false)), none, false⟩,
   ⟨some 3, .assign (.tmp 101), none, false⟩])
 (.seq (.reg [⟨some 7, .assign (.const (.int .i64 0)), none, false⟩])
 (.block 6
 (.loop [1, 3, 6, 7]
 (.seq (.seq (.reg [⟨some 102, .move (.tmp 7), none, false⟩,
   ⟨some 103, .move (.tmp 6), none, false⟩,
   ⟨some 104, .binOp .lss 3 (.tmp 102) (.tmp 103) 3, none, false⟩])
 (.cond (.tmp 104)
 (.skip)
 (.exit 6)))
 (.seq (.block 7
 (.reg [⟨some 107, .move (.tmp 3), none, false⟩,
   ⟨some 108, .move (.tmp 107), none, false⟩,
   ⟨some 109, .fieldAddr 65 (.tmp 1) 6, some (108, true), false⟩,
   ⟨some 110, .load 62 (.tmp 109), some (108, true), false⟩,
   ⟨some 111, .move (.tmp 7), some (108, true), false⟩,
   ⟨some 112, .indexAddr 62 (.tmp 110) (.tmp 111), some (108, true), false⟩,
   ⟨some 113, .fieldAddr 72 (.tmp 112) 0, some (108, true), false⟩,
   ⟨some 114, .load 9 (.tmp 113), some (108, true), false⟩,
   ⟨some 115, .fieldAddr 65 (.tmp 1) 6, some (108, true), false⟩,
   ⟨some 116, .load 62 (.tmp 115), some (108, true), false⟩,
   ⟨some 117, .move (.tmp 6), some (108, true), false⟩,
   ⟨some 118, .indexAddr 62 (.tmp 116) (.tmp 117), some (108, true), false⟩,
   ⟨some 119, .fieldAddr 72 (.tmp 118) 0, some (108, true), false⟩,
   ⟨some 120, .load 9 (.tmp 119), some (108, true), false⟩,
   ⟨some 121, .binOp .neq 9 (.tmp 114) (.tmp 120) 9, some (108, true), false⟩,
   ⟨some 122, .pick (.tmp 108) (.tmp 121) (.const (.bool false)), none, false⟩,
   ⟨some 3, .assign (.tmp 122), none, false⟩]))
 (.reg [⟨some 105, .move (.tmp 7), none, false⟩,
   ⟨some 106, .binOp .add 3 (.tmp 105) (.const (.int .i64 1)) 3, none, false⟩,
   ⟨some 7, .assign (.tmp 106), none, false⟩]))))))))
 (.reg [⟨some 76, .move (.tmp 6), none, false⟩,
   ⟨some 77, .binOp .add 3 (.tmp 76) (.const (.int .i64 1)) 3, none, false⟩,
   ⟨some 6, .assign (.tmp 77), none, false⟩]))))))
 (.seq (.seq (.reg [⟨some 8, .assign (.const (.int .i64 0)), none, false⟩])
 (.block 8
 (.loop [1, 3, 8]
 (.seq (.seq (.reg [⟨some 123, .move (.tmp 8), none, false⟩,
   ⟨some 124, .fieldAddr 65 (.tmp 1) 7, none, false⟩,
   ⟨some 125, .load 63 (.tmp 124), none, false⟩,
   ⟨some 126, .call { callee := (.builtin .len), args := #[(.tmp 125)], argTypes := #[63] }, none, false⟩,
   ⟨some 127, .binOp .lss 3 (.tmp 123) (.tmp 126) 3, none, false⟩])
 (.cond (.tmp 127)
 (.skip)
 (.exit 8)))
 (.seq (.block 9
 (.seq (.reg [⟨some 130, .fieldAddr 65 (.tmp 1) 7, none, false⟩,
   ⟨some 131, .load 63 (.tmp 130), none, false⟩,
   ⟨some 132, .move (.tmp 8), none, false⟩,
   ⟨some 133, .indexAddr 63 (.tmp 131) (.tmp 132), none, false⟩,
   ⟨some 134, .load 39 (.tmp 133), none, false⟩,
   ⟨some 9, .alloc 39, none, false⟩,
   ⟨none, .store 39 (.tmp 9) (.tmp 134), none, false⟩])
 (.seq (.reg [⟨some 135, .move (.tmp 3), none, false⟩,
   ⟨some 136, .move (.tmp 135), none, false⟩,
   ⟨some 137, .load 39 (.tmp 9), some (136, true), false⟩,
   ⟨some 138, .call { callee := (.value (.func 145)), args := #[(.tmp 137)], argTypes := #[39] }, some (136, true), false⟩,
   ⟨some 139, .pick (.tmp 136) (.tmp 138) (.const (.bool false)), none, false⟩,
   ⟨some 140, .move (.tmp 139), none, false⟩,
   ⟨some 141, .fieldAddr 39 (.tmp 9) 3, some (140, true), false⟩,
   ⟨some 142, .load 4 (.tmp 141), some (140, true), false⟩,
   ⟨some 143, .unOp .not 4 (.tmp 142), some (140, true), false⟩,
   ⟨some 144, .move (.tmp 143), some (140, true), false⟩,
   ⟨some 145, .fieldAddr 65 (.tmp 1) 4, some (144, false), false⟩,
   ⟨some 146, .load 4 (.tmp 145), some (144, false), false⟩,
   ⟨some 147, .pick (.tmp 144) (.const (.bool true)) (.tmp 146), some (140, true), false⟩,
   ⟨some 148, .pick (.tmp 140) (.tmp 147) (.const (.bool false)), none, false⟩,
   ⟨some 149, .move (.tmp 148), none, false⟩,
   ⟨some 150, .fieldAddr 65 (.tmp 1) 3, some (149, true), false⟩,
   ⟨some 151, .load 4 (.tmp 150), some (149, true), false⟩,
   ⟨some 152, .unOp .not 4 (.tmp 151), some (149, true), false⟩,
   ⟨some 153, .move (.tmp 152), some (149, true), false⟩,
   ⟨some 154, .fieldAddr 39 (.tmp 9) 3, some (153, false), false⟩,
   ⟨some 155, .load 4 (.tmp 154), some (153, false), false⟩,
   ⟨some 156, .pick (.tmp 153) (.const (.bool true)) (.tmp 155), some (149, true), false⟩,
   ⟨some 157, .pick (.tmp 149) (.tmp 156) (.const (.bool false)), none, false⟩,
   ⟨some 3, .assign (.tmp 157), none, false⟩])
 (.seq (.reg [⟨some 10, .assign (.const (.int .i64 0)), none, false⟩])
 (.block 10
 (.loop [1, 3, 8, 9, 10]
 (.seq (.seq (.reg [⟨some 158, .move (.tmp 10), none, false⟩,
   ⟨some 159, .move (.tmp 8), none, false⟩,
   ⟨some 160, .binOp .lss 3 (.tmp 158) (.tmp 159) 3, none, false⟩])
 (.cond (.tmp 160)
 (.skip)
 (.exit 10)))
 (.seq (.block 11
 (.reg [⟨some 163, .move (.tmp 3), none, false⟩,
   ⟨some 164, .move (.tmp 163), none, false⟩,
   ⟨some 165, .fieldAddr 65 (.tmp 1) 7, some (164, true), false⟩,
   ⟨some 166, .load 63 (.tmp 165), some (164, true), false⟩,
   ⟨some 167, .move (.tmp 10), some (164, true), false⟩,
   ⟨some 168, .indexAddr 63 (.tmp 166) (.tmp 167), some (164, true), false⟩,
   ⟨some 169, .fieldAddr 39 (.tmp 168) 0, some (164, true), false⟩,
   ⟨some 170, .load 9 (.tmp 169), some (164, true), false⟩,
   ⟨some 171, .fieldAddr 39 (.tmp 9) 0, some (164, true), false⟩,
   ⟨some 172, .load 9 (.tmp 171), some (164, true), false⟩,
   ⟨some 173, .binOp .neq 9 (.tmp 170) (.tmp 172) 9, some (164, true), false⟩,
   ⟨some 174, .pick (.tmp 164) (.tmp 173) (.const (.bool false)), none, false⟩,
   ⟨some 3, .assign (.tmp 174), none, false⟩]))
 (.reg [⟨some 161, .move (.tmp 10), none, false⟩,
   ⟨some 162, .binOp .add 3 (.tmp 161) (.const (.int .i64 1)) 3, none, false⟩,
   ⟨some 10, .assign (.tmp 162), none, false⟩])))))))))
 (.reg [⟨some 128, .move (.tmp 8), none, false⟩,
   ⟨some 129, .binOp .add 3 (.tmp 128) (.const (.int .i64 1)) 3, none, false⟩,
   ⟨some 8, .assign (.tmp 129), none, false⟩]))))))
 (.seq (.reg [⟨some 175, .move (.tmp 3), none, false⟩,
   ⟨some 176, .move (.tmp 175), none, false⟩,
   ⟨some 177, .fieldAddr 65 (.tmp 1) 3, some (176, true), false⟩,
   ⟨some 178, .load 4 (.tmp 177), some (176, true), false⟩,
   ⟨some 179, .unOp .not 4 (.tmp 178), some (176, true), false⟩,
   ⟨some 180, .move (.tmp 179), some (176, true), false⟩,
   ⟨some 181, .fieldAddr 65 (.tmp 1) 4, some (180, false), false⟩,
   ⟨some 182, .load 4 (.tmp 181), some (180, false), false⟩,
   ⟨some 183, .move (.tmp 182), some (180, false), false⟩,
   ⟨some 184, .fieldAddr 65 (.tmp 1) 1, some (183, true), false⟩,
   ⟨some 185, .load 9 (.tmp 184), some (183, true), false⟩,
   ⟨some 186, .binOp .eql 9 (.tmp 185) (.const (.string { data := #[79, 98, 106, 101, 99, 116] })) 9, some (183, true), false⟩,
   ⟨some 187, .pick (.tmp 183) (.tmp 186) (.const (.bool false)), some (180, false), false⟩,
   ⟨some 188, .pick (.tmp 180) (.const (.bool true)) (.tmp 187), some (176, true), false⟩,
   ⟨some 189, .pick (.tmp 176) (.tmp 188) (.const (.bool false)), none, false⟩,
   ⟨some 190, .move (.tmp 189), none, false⟩,
   ⟨some 191, .fieldAddr 65 (.tmp 1) 4, some (190, true), false⟩,
   ⟨some 192, .load 4 (.tmp 191), some (190, true), false⟩,
   ⟨some 193, .move (.tmp 192), some (190, true), false⟩,
   ⟨some 194, .fieldAddr 65 (.tmp 1) 5, some (193, true), false⟩,
   ⟨some 195, .load 4 (.tmp 194), some (193, true), false⟩,
   ⟨some 196, .pick (.tmp 193) (.tmp 195) (.const (.bool false)), some (190, true), false⟩,
   ⟨some 197, .unOp .not 4 (.tmp 196), some (190, true), false⟩,
   ⟨some 198, .pick (.tmp 190) (.tmp 197) (.const (.bool false)), none, false⟩,
   ⟨some 2, .assign (.tmp 198), none, false⟩])
 (.ret))))))
def fr77 : FR := ⟨199, [.tmp 2], cc77⟩
theorem fnis77 : FnIs Tryz.prog 77 fr77 := ⟨Tryz.f77, _, [[1, 3, 4], [1, 3, 4, 5], [1, 3, 6], [1, 3, 6, 7], [1, 3, 8], [1, 3, 8, 9, 10]], [], Tryz.func77, rfl, by kernel_rfl, by kernel_rfl, by kernel_rfl, by kernel_rfl⟩
/-- function 78 -/
def cc78 : CC :=
 .seq (.reg [⟨some 6, .assign (.const (.int .i64 0)), none, false⟩])
 (.seq (.reg [⟨some 9, .move (.tmp 0), none, false⟩,
   ⟨some 10, .move (.tmp 1), none, false⟩,
   ⟨some 11, .call { callee := (.value (.func 146)), args := #[(.tmp 9), (.tmp 10)], argTypes := #[26, 9] }, none, false⟩,
   ⟨some 7, .assign (.tmp 11), none, false⟩])
 (.seq (.seq (.reg [⟨some 8, .assign (.const (.int .i64 0)), none, false⟩])
 (.block 0
 (.loop [2, 7, 8]
 (.seq (.seq (.reg [⟨some 12, .move (.tmp 8), none, false⟩,
   ⟨some 13, .move (.tmp 7), none, false⟩,
   ⟨some 14, .call { callee := (.builtin .len), args := #[(.tmp 13)], argTypes := #[62] }, none, false⟩,
   ⟨some 15, .binOp .lss 3 (.tmp 12) (.tmp 14) 3, none, false⟩])
 (.cond (.tmp 15)
 (.skip)
 (.exit 0)))
 (.seq (.block 1
 (.seq (.reg [⟨some 18, .move (.tmp 7), none, false⟩,
   ⟨some 19, .move (.tmp 8), none, false⟩,
   ⟨some 20, .indexAddr 62 (.tmp 18) (.tmp 19), none, false⟩,
   ⟨some 21, .fieldAddr 72 (.tmp 20) 0, none, false⟩,
   ⟨some 22, .load 9 (.tmp 21), none, false⟩,
   ⟨some 23, .move (.tmp 2), none, false⟩,
   ⟨some 24, .binOp .eql 9 (.tmp 22) (.tmp 23) 9, none, false⟩])
 (.cond (.tmp 24)
 (.seq (.reg [⟨some 25, .move (.tmp 8), none, false⟩,
   ⟨some 6, .assign (.tmp 25), none, false⟩])
 (.ret))
 (.skip))))
 (.reg [⟨some 16, .move (.tmp 8), none, false⟩,
   ⟨some 17, .binOp .add 3 (.tmp 16) (.const (.int .i64 1)) 3, none, false⟩,
   ⟨some 8, .assign (.tmp 17), none, false⟩]))))))
 (.seq (.reg [⟨some 6, .assign (.const (.int .i64 (-1))), none, false⟩])
 (.ret))))
def fr78 : FR := ⟨26, [.tmp 6], cc78⟩
theorem fnis78 : FnIs Tryz.prog 78 fr78 := ⟨Tryz.f78, _, [[2, 7, 8]], [], Tryz.func78, rfl, by kernel_rfl, by kernel_rfl, by kernel_rfl, by kernel_rfl⟩
/-- function 79 -/
def cc79 : CC :=
 .seq (.reg [⟨some 4, .assign (.const (.bool false)), none, false⟩])
 (.seq (.reg [⟨some 5, .move (.tmp 1), none, false⟩,
   ⟨some 6, .binOp .neq 9 (.tmp 5) (.const (.string { data := #[110, 117, 108, 108] })) 9, none, false⟩,
   ⟨some 7, .move (.tmp 6), none, false⟩,
   ⟨some 8, .move (.tmp 0), some (7, true), false⟩,
   ⟨some 9, .move (.tmp 1), some (7, true), false⟩,
   ⟨some 10, .call { callee := (.value (.func 147)), args := #[(.tmp 8), (.tmp 9)], argTypes := #[26, 9] }, some (7, true), false⟩,
   ⟨some 11, .pick (.tmp 7) (.tmp 10) (.const (.bool false)), none, false⟩,
   ⟨some 4, .assign (.tmp 11), none, false⟩])
 (.ret))
def fr79 : FR := ⟨12, [.tmp 4], cc79⟩
theorem fnis79 : FnIs Tryz.prog 79 fr79 := ⟨Tryz.f79, _, [], [], Tryz.func79, rfl, by kernel_rfl, by kernel_rfl, by kernel_rfl, by kernel_rfl⟩
/-- function 80 -/
def cc80 : CC :=
 .seq (.reg [⟨some 1, .box 39 (.tmp 0), none, false⟩,
   ⟨some 2, .assign (.const (.string { data := #[] })), none, false⟩])
 (.seq (.reg [⟨some 3, .assign (.const (.string { data := #[40] })), none, false⟩])
 (.seq (.seq (.reg [⟨some 4, .assign (.const (.int .i64 0)), none, false⟩])
 (.block 0
 (.loop [1, 3, 4]
 (.seq (.seq (.reg [⟨some 5, .move (.tmp 4), none, false⟩,
   ⟨some 6, .fieldAddr 39 (.tmp 1) 1, none, false⟩,
   ⟨some 7, .load 22 (.tmp 6), none, false⟩,
   ⟨some 8, .call { callee := (.builtin .len), args := #[(.tmp 7)], argTypes := #[22] }, none, false⟩,
   ⟨some 9, .binOp .lss 3 (.tmp 5) (.tmp 8) 3, none, false⟩])
 (.cond (.tmp 9)
 (.skip)
 (.exit 0)))
 (.seq (.block 1
 (.seq (.seq (.reg [⟨some 12, .move (.tmp 4), none, false⟩,
   ⟨some 13, .binOp .gtr 3 (.tmp 12) (.const (.int .i64 0)) 3, none, false⟩])
 (.cond (.tmp 13)
 (.reg [⟨some 14, .move (.tmp 3), none, false⟩,
   ⟨some 15, .binOp .add 9 (.tmp 14) (.const (.string { data := #[44] })) 9, none, false⟩,
   ⟨some 3, .assign (.tmp 15), none, false⟩])
 (.skip)))
 (.reg [⟨some 16, .move (.tmp 3), none, false⟩,
   ⟨some 17, .fieldAddr 39 (.tmp 1) 1, none, false⟩,
   ⟨some 18, .load 22 (.tmp 17), none, false⟩,
   ⟨some 19, .move (.tmp 4), none, false⟩,
   ⟨some 20, .indexAddr 22 (.tmp 18) (.tmp 19), none, false⟩,
   ⟨some 21, .load 9 (.tmp 20), none, false⟩,
   ⟨some 22, .binOp .add 9 (.tmp 16) (.tmp 21) 9, none, false⟩,
   ⟨some 3, .assign (.tmp 22), none, false⟩])))
 (.reg [⟨some 10, .move (.tmp 4), none, false⟩,
   ⟨some 11, .binOp .add 3 (.tmp 10) (.const (.int .i64 1)) 3, none, false⟩,
   ⟨some 4, .assign (.tmp 11), none, false⟩]))))))
 (.seq (.reg [⟨some 23, .move (.tmp 3), none, false⟩,
   ⟨some 24, .binOp .add 9 (.tmp 23) (.const (.string { data := #[41] })) 9, none, false⟩,
   ⟨some 25, .fieldAddr 39 (.tmp 1) 2, none, false⟩,
   ⟨some 26, .load 9 (.tmp 25), none, false⟩,
   ⟨some 27, .binOp .add 9 (.tmp 24) (.tmp 26) 9, none, false⟩,
   ⟨some 2, .assign (.tmp 27), none, false⟩])
 (.ret))))
def fr80 : FR := ⟨28, [.tmp 2], cc80⟩
theorem fnis80 : FnIs Tryz.prog 80 fr80 := ⟨Tryz.f80, _, [[1, 3, 4]], [], Tryz.func80, rfl, by kernel_rfl, by kernel_rfl, by kernel_rfl, by kernel_rfl⟩
/-- function 81 -/
def cc81 : CC :=
 .seq (.reg [⟨some 6, .assign (.const (.string { data := #[] })), none, false⟩,
   ⟨some 7, .alloc 39, none, false⟩,
   ⟨some 8, .assign (.const (.bool false)), none, false⟩])
 (.seq (.seq (.reg [⟨some 15, .move (.tmp 0), none, false⟩,
   ⟨some 16, .move (.tmp 1), none, false⟩,
   ⟨some 17, .call { callee := (.value (.func 41)), args := #[(.tmp 15), (.tmp 16)], argTypes := #[26, 9] }, none, false⟩,
   ⟨some 9, .assign (.tmp 17), none, false⟩])
 (.block 0
 (.loop [0, 1, 2, 7, 9]
 (.seq (.seq (.reg [⟨some 18, .move (.tmp 9), none, false⟩,
   ⟨some 19, .binOp .geq 3 (.tmp 18) (.const (.int .i64 0)) 3, none, false⟩])
 (.cond (.tmp 19)
 (.skip)
 (.exit 0)))
 (.seq (.block 1
 (.seq (.reg [⟨some 27, .move (.tmp 0), none, false⟩,
   ⟨some 28, .move (.tmp 9), none, false⟩,
   ⟨some 29, .indexAddr 26 (.tmp 27) (.tmp 28), none, false⟩,
   ⟨some 30, .load 65 (.tmp 29), none, false⟩,
   ⟨some 31, .move (.tmp 2), none, false⟩,
   ⟨some 32, .call { callee := (.value (.func 148)), args := #[(.tmp 30), (.tmp 31)], argTypes := #[65, 9] }, none, false⟩,
   ⟨some 10, .assign (.tmp 32), none, false⟩])
 (.seq (.reg [⟨some 33, .move (.tmp 10), none, false⟩,
   ⟨some 34, .binOp .geq 3 (.tmp 33) (.const (.int .i64 0)) 3, none, false⟩])
 (.cond (.tmp 34)
 (.seq (.reg [⟨some 35, .move (.tmp 0), none, false⟩,
   ⟨some 36, .move (.tmp 9), none, false⟩,
   ⟨some 37, .indexAddr 26 (.tmp 35) (.tmp 36), none, false⟩,
   ⟨some 38, .fieldAddr 65 (.tmp 37) 0, none, false⟩,
   ⟨some 39, .load 9 (.tmp 38), none, false⟩,
   ⟨some 40, .move (.tmp 0), none, false⟩,
   ⟨some 41, .move (.tmp 9), none, false⟩,
   ⟨some 42, .indexAddr 26 (.tmp 40) (.tmp 41), none, false⟩,
   ⟨some 43, .fieldAddr 65 (.tmp 42) 7, none, false⟩,
   ⟨some 44, .load 63 (.tmp 43), none, false⟩,
   ⟨some 45, .move (.tmp 10), none, false⟩,
   ⟨some 46, .indexAddr 63 (.tmp 44) (.tmp 45), none, false⟩,
   ⟨some 47, .load 39 (.tmp 46), none, false⟩,
   ⟨some 6, .assign (.tmp 39), none, false⟩,
   ⟨none, .store 39 (.tmp 7) (.tmp 47), none, false⟩,
   ⟨some 8, .assign (.const (.bool true)), none, false⟩])
 (.ret))
 (.skip)))))
 (.reg [⟨some 20, .move (.tmp 0), none, false⟩,
   ⟨some 21, .move (.tmp 0), none, false⟩,
   ⟨some 22, .move (.tmp 9), none, false⟩,
   ⟨some 23, .indexAddr 26 (.tmp 21) (.tmp 22), none, false⟩,
   ⟨some 24, .fieldAddr 65 (.tmp 23) 1, none, false⟩,
   ⟨some 25, .load 9 (.tmp 24), none, false⟩,
   ⟨some 26, .call { callee := (.value (.func 41)), args := #[(.tmp 20), (.tmp 25)], argTypes := #[26, 9] }, none, false⟩,
   ⟨some 9, .assign (.tmp 26), none, false⟩]))))))
 (.seq (.seq (.reg [⟨some 48, .move (.tmp 0), none, false⟩,
   ⟨some 49, .move (.tmp 1), none, false⟩,
   ⟨some 50, .call { callee := (.value (.func 41)), args := #[(.tmp 48), (.tmp 49)], argTypes := #[26, 9] }, none, false⟩,
   ⟨some 11, .assign (.tmp 50), none, false⟩])
 (.block 2
 (.loop [0, 2, 7, 11]
 (.seq (.seq (.reg [⟨some 51, .move (.tmp 11), none, false⟩,
   ⟨some 52, .binOp .geq 3 (.tmp 51) (.const (.int .i64 0)) 3, none, false⟩])
 (.cond (.tmp 52)
 (.skip)
 (.exit 2)))
 (.seq (.block 3
 (.seq (.reg [⟨some 61, .move (.tmp 0), none, false⟩,
   ⟨some 62, .move (.tmp 0), none, false⟩,
   ⟨some 63, .move (.tmp 11), none, false⟩,
   ⟨some 64, .indexAddr 26 (.tmp 62) (.tmp 63), none, false⟩,
   ⟨some 65, .load 65 (.tmp 64), none, false⟩,
   ⟨some 66, .move (.tmp 2), none, false⟩,
   ⟨some 67, .call { callee := (.value (.func 149)), args := #[(.tmp 61), (.tmp 65), (.tmp 66)], argTypes := #[26, 65, 9] }, none, false⟩,
   ⟨some 60, .move (.tmp 67), none, false⟩,
   ⟨some 68, .extract (.tmp 60) 0, none, false⟩,
   ⟨some 69, .extract (.tmp 60) 1, none, false⟩,
   ⟨some 70, .extract (.tmp 60) 2, none, false⟩,
   ⟨some 13, .alloc 39, none, false⟩,
   ⟨some 12, .assign (.tmp 68), none, false⟩,
   ⟨none, .store 39 (.tmp 13) (.tmp 69), none, false⟩,
   ⟨some 14, .assign (.tmp 70), none, false⟩])
 (.seq (.reg [⟨some 71, .move (.tmp 14), none, false⟩])
 (.cond (.tmp 71)
 (.seq (.reg [⟨some 72, .move (.tmp 12), none, false⟩,
   ⟨some 73, .load 39 (.tmp 13), none, false⟩,
   ⟨some 6, .assign (.tmp 72), none, false⟩,
   ⟨none, .store 39 (.tmp 7) (.tmp 73), none, false⟩,
   ⟨some 8, .assign (.const (.bool true)), none, false⟩])
 (.ret))
 (.skip)))))
 (.reg [⟨some 53, .move (.tmp 0), none, false⟩,
   ⟨some 54, .move (.tmp 0), none, false⟩,
   ⟨some 55, .move (.tmp 11), none, false⟩,
   ⟨some 56, .indexAddr 26 (.tmp 54) (.tmp 55), none, false⟩,
   ⟨some 57, .fieldAddr 65 (.tmp 56) 1, none, false⟩,
   ⟨some 58, .load 9 (.tmp 57), none, false⟩,
   ⟨some 59, .call { callee := (.value (.func 41)), args := #[(.tmp 53), (.tmp 58)], argTypes := #[26, 9] }, none, false⟩,
   ⟨some 11, .assign (.tmp 59), none, false⟩]))))))
 (.seq (.reg [⟨some 74, .build 39 #[], none, false⟩,
   ⟨some 6, .assign (.const (.string { data := #[] })), none, false⟩,
   ⟨none, .store 39 (.tmp 7) (.tmp 74), none, false⟩,
   ⟨some 8, .assign (.const (.bool false)), none, false⟩])
 (.ret))))
def fr81 : FR := ⟨75, [.tmp 6, .cell 7 39, .tmp 8], cc81⟩
theorem fnis81 : FnIs Tryz.prog 81 fr81 := ⟨Tryz.f81, _, [[0, 1, 2, 7, 9], [0, 2, 7, 11]], [], Tryz.func81, rfl, by kernel_rfl, by kernel_rfl, by kernel_rfl, by kernel_rfl⟩
/-- function 82 -/
def cc82 : CC :=
 .seq (.reg [⟨some 1, .box 9 (.tmp 0), none, false⟩,
   ⟨some 2, .assign (.const .nilFunc), none, false⟩])
 (.seq (.reg [⟨some 3, .makeFunc (.func 150) #[] #[(.tmp 1)], none, false⟩,
   ⟨some 2, .assign (.tmp 3), none, false⟩])
 (.ret))
def fr82 : FR := ⟨4, [.tmp 2], cc82⟩
theorem fnis82 : FnIs Tryz.prog 82 fr82 := ⟨Tryz.f82, _, [], [], Tryz.func82, rfl, by kernel_rfl, by kernel_rfl, by kernel_rfl, by kernel_rfl⟩
/-- function 83 -/
def cc83 : CC :=
 .seq (.reg [⟨some 3, .move (.tmp 0), none, false⟩,
   ⟨some 4, .call { callee := (.value (.func 152)), args := #[(.tmp 3)], argTypes := #[80] }, none, false⟩,
   ⟨some 2, .assign (.tmp 4), none, false⟩])
 (.seq (.reg [⟨some 5, .move (.tmp 2), none, false⟩,
   ⟨some 6, .binOp .geq 3 (.tmp 5) (.const (.int .i64 0)) 3, none, false⟩,
   ⟨some 7, .move (.tmp 6), none, false⟩,
   ⟨some 8, .move (.tmp 0), some (7, true), false⟩,
   ⟨some 9, .move (.tmp 0), some (7, true), false⟩,
   ⟨some 10, .nilCheck (.tmp 9), some (7, true), false⟩,
   ⟨some 11, .fieldAddr 83 (.tmp 10) 3, some (7, true), false⟩,
   ⟨some 12, .fieldAddr 24 (.tmp 11) 2, some (7, true), false⟩,
   ⟨some 13, .load 22 (.tmp 12), some (7, true), false⟩,
   ⟨some 14, .move (.tmp 2), some (7, true), false⟩,
   ⟨some 15, .indexAddr 22 (.tmp 13) (.tmp 14), some (7, true), false⟩,
   ⟨some 16, .load 9 (.tmp 15), some (7, true), false⟩,
   ⟨some 17, .binOp .neq 9 (.tmp 16) (.const (.string { data := #[] })) 9, some (7, true), false⟩,
   ⟨some 18, .call { callee := (.value (.func 48)), args := #[(.tmp 8), (.tmp 17), (.const (.int .i64 74))], argTypes := #[80, 4, 32] }, some (7, true), false⟩,
   ⟨some 19, .pick (.tmp 7) (.tmp 18) (.const (.bool false)), none, false⟩])
 (.cond (.tmp 19)
 (.reg [⟨some 20, .move (.tmp 0), none, false⟩,
   ⟨some 21, .move (.tmp 0), none, false⟩,
   ⟨some 22, .nilCheck (.tmp 21), none, false⟩,
   ⟨some 23, .fieldAddr 83 (.tmp 22) 3, none, false⟩,
   ⟨some 24, .fieldAddr 24 (.tmp 23) 2, none, false⟩,
   ⟨some 25, .load 22 (.tmp 24), none, false⟩,
   ⟨some 26, .move (.tmp 2), none, false⟩,
   ⟨some 27, .indexAddr 22 (.tmp 25) (.tmp 26), none, false⟩,
   ⟨some 28, .load 9 (.tmp 27), none, false⟩,
   ⟨some 29, .buildSlice 22 1 #[(0, (.tmp 28))], none, false⟩,
   ⟨some 30, .call { callee := (.value (.func 151)), args := #[(.tmp 20), (.tmp 29)], argTypes := #[80, 22] }, none, false⟩])
 (.skip)))
def fr83 : FR := ⟨31, [], cc83⟩
theorem fnis83 : FnIs Tryz.prog 83 fr83 := ⟨Tryz.f83, _, [], [], Tryz.func83, rfl, by kernel_rfl, by kernel_rfl, by kernel_rfl, by kernel_rfl⟩
/-- function 84 -/
def cc84 : CC :=
 .seq (.reg [⟨some 4, .move (.tmp 0), none, false⟩,
   ⟨some 5, .call { callee := (.value (.func 152)), args := #[(.tmp 4)], argTypes := #[80] }, none, false⟩,
   ⟨some 2, .assign (.tmp 5), none, false⟩])
 (.seq (.reg [⟨some 6, .move (.tmp 0), none, false⟩,
   ⟨some 7, .call { callee := (.value (.func 88)), args := #[(.tmp 6), (.const (.int .i64 1))], argTypes := #[80, 3] }, none, false⟩,
   ⟨some 8, .indexAddr 22 (.tmp 7) (.const (.int .i64 0)), none, false⟩,
   ⟨some 9, .load 9 (.tmp 8), none, false⟩,
   ⟨some 3, .assign (.tmp 9), none, false⟩])
 (.seq (.reg [⟨some 10, .move (.tmp 0), none, false⟩,
   ⟨some 11, .nilCheck (.tmp 10), none, false⟩,
   ⟨some 12, .fieldAddr 83 (.tmp 11) 4, none, false⟩,
   ⟨some 13, .load 32 (.tmp 12), none, false⟩,
   ⟨some 14, .binOp .eql 32 (.tmp 13) (.const (.int .i64 0)) 32, none, false⟩])
 (.cond (.tmp 14)
 (.reg [⟨some 15, .move (.tmp 0), none, false⟩,
   ⟨some 16, .nilCheck (.tmp 15), none, false⟩,
   ⟨some 17, .fieldAddr 83 (.tmp 16) 3, none, false⟩,
   ⟨some 18, .fieldAddr 24 (.tmp 17) 2, none, false⟩,
   ⟨some 19, .load 22 (.tmp 18), none, false⟩,
   ⟨some 20, .move (.tmp 2), none, false⟩,
   ⟨some 21, .move (.tmp 3), none, false⟩,
   ⟨some 22, .indexAddr 22 (.tmp 19) (.tmp 20), none, false⟩,
   ⟨none, .store 9 (.tmp 22) (.tmp 21), none, false⟩])
 (.skip))))
def fr84 : FR := ⟨23, [], cc84⟩
theorem fnis84 : FnIs Tryz.prog 84 fr84 := ⟨Tryz.f84, _, [], [], Tryz.func84, rfl, by kernel_rfl, by kernel_rfl, by kernel_rfl, by kernel_rfl⟩
/-- function 85 -/
def cc85 : CC :=
 .seq (.reg [⟨some 3, .move (.tmp 0), none, false⟩,
   ⟨some 4, .call { callee := (.value (.func 88)), args := #[(.tmp 3), (.const (.int .i64 1))], argTypes := #[80, 3] }, none, false⟩,
   ⟨some 5, .indexAddr 22 (.tmp 4) (.const (.int .i64 0)), none, false⟩,
   ⟨some 6, .load 9 (.tmp 5), none, false⟩,
   ⟨some 2, .assign (.tmp 6), none, false⟩])
 (.reg [⟨some 7, .move (.tmp 0), none, false⟩,
   ⟨some 8, .move (.tmp 2), none, false⟩,
   ⟨some 9, .move (.tmp 2), none, false⟩,
   ⟨some 10, .buildSlice 22 2 #[(0, (.tmp 8)), (1, (.tmp 9))], none, false⟩,
   ⟨some 11, .call { callee := (.value (.func 151)), args := #[(.tmp 7), (.tmp 10)], argTypes := #[80, 22] }, none, false⟩])
def fr85 : FR := ⟨12, [], cc85⟩
theorem fnis85 : FnIs Tryz.prog 85 fr85 := ⟨Tryz.f85, _, [], [], Tryz.func85, rfl, by kernel_rfl, by kernel_rfl, by kernel_rfl, by kernel_rfl⟩
/-- function 86 -/
def cc86 : CC :=
 .seq (.reg [⟨some 3, .move (.tmp 0), none, false⟩,
   ⟨some 4, .call { callee := (.value (.func 88)), args := #[(.tmp 3), (.const (.int .i64 2))], argTypes := #[80, 3] }, none, false⟩,
   ⟨some 2, .assign (.tmp 4), none, false⟩])
 (.reg [⟨some 5, .move (.tmp 0), none, false⟩,
   ⟨some 6, .move (.tmp 2), none, false⟩,
   ⟨some 7, .indexAddr 22 (.tmp 6) (.const (.int .i64 1)), none, false⟩,
   ⟨some 8, .load 9 (.tmp 7), none, false⟩,
   ⟨some 9, .move (.tmp 2), none, false⟩,
   ⟨some 10, .indexAddr 22 (.tmp 9) (.const (.int .i64 0)), none, false⟩,
   ⟨some 11, .load 9 (.tmp 10), none, false⟩,
   ⟨some 12, .buildSlice 22 2 #[(0, (.tmp 8)), (1, (.tmp 11))], none, false⟩,
   ⟨some 13, .call { callee := (.value (.func 151)), args := #[(.tmp 5), (.tmp 12)], argTypes := #[80, 22] }, none, false⟩])
def fr86 : FR := ⟨14, [], cc86⟩
theorem fnis86 : FnIs Tryz.prog 86 fr86 := ⟨Tryz.f86, _, [], [], Tryz.func86, rfl, by kernel_rfl, by kernel_rfl, by kernel_rfl, by kernel_rfl⟩
/-- function 87 -/
def cc87 : CC :=
 .reg [⟨some 2, .move (.tmp 0), none, false⟩,
   ⟨some 3, .call { callee := (.value (.func 88)), args := #[(.tmp 2), (.const (.int .i64 1))], argTypes := #[80, 3] }, none, false⟩]
def fr87 : FR := ⟨4, [], cc87⟩
theorem fnis87 : FnIs Tryz.prog 87 fr87 := ⟨Tryz.f87, _, [], [], Tryz.func87, rfl, by kernel_rfl, by kernel_rfl, by kernel_rfl, by kernel_rfl⟩
/-- function 88 -/
def cc88 : CC :=
 .seq (.reg [⟨some 4, .assign (.const (.slice none 0 0)), none, false⟩])
 (.seq (.seq (.reg [⟨some 7, .move (.tmp 0), none, false⟩,
   ⟨some 8, .move (.tmp 0), none, false⟩,
   ⟨some 9, .nilCheck (.tmp 8), none, false⟩,
   ⟨some 10, .fieldAddr 83 (.tmp 9) 3, none, false⟩,
   ⟨some 11, .fieldAddr 24 (.tmp 10) 1, none, false⟩,
   ⟨some 12, .load 22 (.tmp 11), none, false⟩,
   ⟨some 13, .call { callee := (.builtin .len), args := #[(.tmp 12)], argTypes := #[22] }, none, false⟩,
   ⟨some 14, .move (.tmp 1), none, false⟩,
   ⟨some 15, .binOp .geq 3 (.tmp 13) (.tmp 14) 3, none, false⟩,
   ⟨some 16, .call { callee := (.value (.func 48)), args := #[(.tmp 7), (.tmp 15), (.const (.int .i64 72))], argTypes := #[80, 4, 32] }, none, false⟩,
   ⟨some 17, .unOp .not 4 (.tmp 16), none, false⟩])
 (.cond (.tmp 17)
 (.seq (.reg [⟨some 18, .move (.tmp 1), none, false⟩,
   ⟨some 19, .makeSlice 22 (.tmp 18) (.tmp 18), none, false⟩,
   ⟨some 4, .assign (.tmp 19), none, false⟩])
 (.ret))
 (.skip)))
 (.seq (.reg [⟨some 20, .move (.tmp 0), none, false⟩,
   ⟨some 21, .nilCheck (.tmp 20), none, false⟩,
   ⟨some 22, .fieldAddr 83 (.tmp 21) 3, none, false⟩,
   ⟨some 23, .fieldAddr 24 (.tmp 22) 1, none, false⟩,
   ⟨some 24, .load 22 (.tmp 23), none, false⟩,
   ⟨some 25, .call { callee := (.builtin .len), args := #[(.tmp 24)], argTypes := #[22] }, none, false⟩,
   ⟨some 26, .move (.tmp 1), none, false⟩,
   ⟨some 27, .binOp .sub 3 (.tmp 25) (.tmp 26) 3, none, false⟩,
   ⟨some 5, .assign (.tmp 27), none, false⟩])
 (.seq (.reg [⟨some 28, .move (.tmp 0), none, false⟩,
   ⟨some 29, .nilCheck (.tmp 28), none, false⟩,
   ⟨some 30, .fieldAddr 83 (.tmp 29) 3, none, false⟩,
   ⟨some 31, .fieldAddr 24 (.tmp 30) 1, none, false⟩,
   ⟨some 32, .load 22 (.tmp 31), none, false⟩,
   ⟨some 33, .move (.tmp 5), none, false⟩,
   ⟨some 34, .slice 22 (.tmp 32) (some (.tmp 33)) none none, none, false⟩,
   ⟨some 35, .call { callee := (.value (.func 46)), args := #[(.tmp 34)], argTypes := #[22] }, none, false⟩,
   ⟨some 6, .assign (.tmp 35), none, false⟩])
 (.seq (.reg [⟨some 36, .move (.tmp 0), none, false⟩,
   ⟨some 37, .move (.tmp 0), none, false⟩,
   ⟨some 38, .nilCheck (.tmp 37), none, false⟩,
   ⟨some 39, .fieldAddr 83 (.tmp 38) 3, none, false⟩,
   ⟨some 40, .fieldAddr 24 (.tmp 39) 1, none, false⟩,
   ⟨some 41, .load 22 (.tmp 40), none, false⟩,
   ⟨some 42, .move (.tmp 5), none, false⟩,
   ⟨some 43, .move (.tmp 5), none, false⟩,
   ⟨some 44, .slice 22 (.tmp 41) none (some (.tmp 42)) (some (.tmp 43)), none, false⟩,
   ⟨some 45, .nilCheck (.tmp 36), none, false⟩,
   ⟨some 46, .fieldAddr 83 (.tmp 45) 3, none, false⟩,
   ⟨some 47, .fieldAddr 24 (.tmp 46) 1, none, false⟩,
   ⟨none, .store 22 (.tmp 47) (.tmp 44), none, false⟩])
 (.seq (.reg [⟨some 48, .move (.tmp 6), none, false⟩,
   ⟨some 4, .assign (.tmp 48), none, false⟩])
 (.ret))))))
def fr88 : FR := ⟨49, [.tmp 4], cc88⟩
theorem fnis88 : FnIs Tryz.prog 88 fr88 := ⟨Tryz.f88, _, [], [], Tryz.func88, rfl, by kernel_rfl, by kernel_rfl, by kernel_rfl, by kernel_rfl⟩
/-- function 89 -/
def cc89 : CC :=
 .seq (.reg [⟨some 2, .box 9 (.tmp 0), none, false⟩,
   ⟨some 3, .box 22 (.tmp 1), none, false⟩,
   ⟨some 4, .assign (.const .nilFunc), none, false⟩])
 (.seq (.reg [⟨some 5, .makeFunc (.func 153) #[] #[(.tmp 2), (.tmp 3)], none, false⟩,
   ⟨some 4, .assign (.tmp 5), none, false⟩])
 (.ret))
def fr89 : FR := ⟨6, [.tmp 4], cc89⟩
theorem fnis89 : FnIs Tryz.prog 89 fr89 := ⟨Tryz.f89, _, [], [], Tryz.func89, rfl, by kernel_rfl, by kernel_rfl, by kernel_rfl, by kernel_rfl⟩
/-- function 90 -/
def cc90 : CC :=
 .reg [⟨some 2, .move (.tmp 0), none, false⟩,
   ⟨some 3, .buildSlice 22 2 #[(0, (.const (.string { data := #[105, 110, 116] }))), (1, (.const (.string { data := #[105, 110, 116] })))], none, false⟩,
   ⟨some 4, .call { callee := (.value (.func 154)), args := #[(.tmp 2), (.const (.string { data := #[98, 111, 111, 108] })), (.tmp 3)], argTypes := #[80, 9, 22] }, none, false⟩]
def fr90 : FR := ⟨5, [], cc90⟩
theorem fnis90 : FnIs Tryz.prog 90 fr90 := ⟨Tryz.f90, _, [], [], Tryz.func90, rfl, by kernel_rfl, by kernel_rfl, by kernel_rfl, by kernel_rfl⟩
/-- function 91 -/
def cc91 : CC :=
 .seq (.reg [⟨some 2, .move (.tmp 0), none, false⟩,
   ⟨some 3, .move (.tmp 0), none, false⟩,
   ⟨some 4, .call { callee := (.value (.func 88)), args := #[(.tmp 3), (.const (.int .i64 1))], argTypes := #[80, 3] }, none, false⟩,
   ⟨some 5, .indexAddr 22 (.tmp 4) (.const (.int .i64 0)), none, false⟩,
   ⟨some 6, .load 9 (.tmp 5), none, false⟩,
   ⟨some 7, .call { callee := (.value (.func 155)), args := #[(.tmp 2), (.tmp 6)], argTypes := #[80, 9] }, none, false⟩])
 (.reg [⟨some 8, .move (.tmp 0), none, false⟩,
   ⟨some 9, .buildSlice 22 1 #[(0, (.const (.string { data := #[105, 110, 116] })))], none, false⟩,
   ⟨some 10, .call { callee := (.value (.func 151)), args := #[(.tmp 8), (.tmp 9)], argTypes := #[80, 22] }, none, false⟩])
def fr91 : FR := ⟨11, [], cc91⟩
theorem fnis91 : FnIs Tryz.prog 91 fr91 := ⟨Tryz.f91, _, [], [], Tryz.func91, rfl, by kernel_rfl, by kernel_rfl, by kernel_rfl, by kernel_rfl⟩
/-- function 92 -/
def cc92 : CC :=
 .skip
def fr92 : FR := ⟨2, [], cc92⟩
theorem fnis92 : FnIs Tryz.prog 92 fr92 := ⟨Tryz.f92, _, [], [], Tryz.func92, rfl, by kernel_rfl, by kernel_rfl, by kernel_rfl, by kernel_rfl⟩
/-- function 93 -/
def cc93 : CC :=
 .seq (.reg [⟨some 2, .move (.tmp 0), none, false⟩,
   ⟨some 3, .move (.tmp 0), none, false⟩,
   ⟨some 4, .nilCheck (.tmp 3), none, false⟩,
   ⟨some 5, .fieldAddr 83 (.tmp 4) 0, none, false⟩,
   ⟨some 6, .load 25 (.tmp 5), none, false⟩,
   ⟨some 7, .move (.tmp 0), none, false⟩,
   ⟨some 8, .nilCheck (.tmp 7), none, false⟩,
   ⟨some 9, .fieldAddr 83 (.tmp 8) 2, none, false⟩,
   ⟨some 10, .fieldAddr 53 (.tmp 9) 2, none, false⟩,
   ⟨some 11, .load 9 (.tmp 10), none, false⟩,
   ⟨some 12, .call { callee := (.value (.func 156)), args := #[(.tmp 6), (.tmp 11)], argTypes := #[25, 9] }, none, false⟩,
   ⟨some 13, .call { callee := (.value (.func 48)), args := #[(.tmp 2), (.tmp 12), (.const (.int .i64 76))], argTypes := #[80, 4, 32] }, none, false⟩])
 (.cond (.tmp 13)
 (.reg [⟨some 14, .move (.tmp 0), none, false⟩,
   ⟨some 15, .move (.tmp 0), none, false⟩,
   ⟨some 16, .nilCheck (.tmp 15), none, false⟩,
   ⟨some 17, .fieldAddr 83 (.tmp 16) 2, none, false⟩,
   ⟨some 18, .fieldAddr 53 (.tmp 17) 2, none, false⟩,
   ⟨some 19, .load 9 (.tmp 18), none, false⟩,
   ⟨some 20, .buildSlice 22 1 #[(0, (.tmp 19))], none, false⟩,
   ⟨some 21, .call { callee := (.value (.func 151)), args := #[(.tmp 14), (.tmp 20)], argTypes := #[80, 22] }, none, false⟩])
 (.skip))
def fr93 : FR := ⟨22, [], cc93⟩
theorem fnis93 : FnIs Tryz.prog 93 fr93 := ⟨Tryz.f93, _, [], [], Tryz.func93, rfl, by kernel_rfl, by kernel_rfl, by kernel_rfl, by kernel_rfl⟩
/-- function 94 -/
def cc94 : CC :=
 .seq (.reg [⟨some 5, .move (.tmp 0), none, false⟩,
   ⟨some 6, .call { callee := (.value (.func 157)), args := #[(.tmp 5)], argTypes := #[80] }, none, false⟩,
   ⟨some 4, .move (.tmp 6), none, false⟩,
   ⟨some 7, .extract (.tmp 4) 0, none, false⟩,
   ⟨some 8, .extract (.tmp 4) 1, none, false⟩,
   ⟨some 2, .assign (.tmp 7), none, false⟩,
   ⟨some 3, .assign (.tmp 8), none, false⟩])
 (.reg [⟨some 9, .move (.tmp 0), none, false⟩,
   ⟨some 10, .move (.tmp 3), none, false⟩,
   ⟨some 11, .move (.tmp 2), none, false⟩,
   ⟨some 12, .buildSlice 22 1 #[(0, (.tmp 11))], none, false⟩,
   ⟨some 13, .call { callee := (.value (.func 154)), args := #[(.tmp 9), (.tmp 10), (.tmp 12)], argTypes := #[80, 9, 22] }, none, false⟩])
def fr94 : FR := ⟨14, [], cc94⟩
theorem fnis94 : FnIs Tryz.prog 94 fr94 := ⟨Tryz.f94, _, [], [], Tryz.func94, rfl, by kernel_rfl, by kernel_rfl, by kernel_rfl, by kernel_rfl⟩
/-- function 95 -/
def cc95 : CC :=
 .seq (.reg [⟨some 5, .move (.tmp 0), none, false⟩,
   ⟨some 6, .call { callee := (.value (.func 157)), args := #[(.tmp 5)], argTypes := #[80] }, none, false⟩,
   ⟨some 4, .move (.tmp 6), none, false⟩,
   ⟨some 7, .extract (.tmp 4) 0, none, false⟩,
   ⟨some 8, .extract (.tmp 4) 1, none, false⟩,
   ⟨some 2, .assign (.tmp 7), none, false⟩,
   ⟨some 3, .assign (.tmp 8), none, false⟩])
 (.reg [⟨some 9, .move (.tmp 0), none, false⟩,
   ⟨some 10, .move (.tmp 2), none, false⟩,
   ⟨some 11, .move (.tmp 3), none, false⟩,
   ⟨some 12, .buildSlice 22 2 #[(0, (.tmp 10)), (1, (.tmp 11))], none, false⟩,
   ⟨some 13, .call { callee := (.value (.func 154)), args := #[(.tmp 9), (.const (.string { data := #[] })), (.tmp 12)], argTypes := #[80, 9, 22] }, none, false⟩])
def fr95 : FR := ⟨14, [], cc95⟩
theorem fnis95 : FnIs Tryz.prog 95 fr95 := ⟨Tryz.f95, _, [], [], Tryz.func95, rfl, by kernel_rfl, by kernel_rfl, by kernel_rfl, by kernel_rfl⟩
/-- function 96 -/
def cc96 : CC :=
 .seq (.reg [⟨some 9, .move (.tmp 0), none, false⟩,
   ⟨some 10, .nilCheck (.tmp 9), none, false⟩,
   ⟨some 11, .fieldAddr 83 (.tmp 10) 2, none, false⟩,
   ⟨some 12, .fieldAddr 53 (.tmp 11) 2, none, false⟩,
   ⟨some 13, .load 9 (.tmp 12), none, false⟩,
   ⟨some 14, .call { callee := (.value (.func 158)), args := #[(.tmp 13)], argTypes := #[9] }, none, false⟩,
   ⟨some 8, .move (.tmp 14), none, false⟩,
   ⟨some 15, .extract (.tmp 8) 0, none, false⟩,
   ⟨some 16, .extract (.tmp 8) 1, none, false⟩,
   ⟨some 17, .extract (.tmp 8) 2, none, false⟩,
   ⟨some 2, .assign (.tmp 15), none, false⟩,
   ⟨some 3, .assign (.tmp 16), none, false⟩,
   ⟨some 4, .assign (.tmp 17), none, false⟩])
 (.seq (.reg [⟨some 19, .move (.tmp 0), none, false⟩,
   ⟨some 20, .nilCheck (.tmp 19), none, false⟩,
   ⟨some 21, .fieldAddr 83 (.tmp 20) 0, none, false⟩,
   ⟨some 22, .load 25 (.tmp 21), none, false⟩,
   ⟨some 23, .move (.tmp 2), none, false⟩,
   ⟨some 24, .move (.tmp 3), none, false⟩,
   ⟨some 25, .call { callee := (.value (.func 75)), args := #[(.tmp 22), (.tmp 23), (.tmp 24)], argTypes := #[25, 9, 9] }, none, false⟩,
   ⟨some 18, .move (.tmp 25), none, false⟩,
   ⟨some 26, .extract (.tmp 18) 0, none, false⟩,
   ⟨some 27, .extract (.tmp 18) 1, none, false⟩,
   ⟨some 28, .extract (.tmp 18) 2, none, false⟩,
   ⟨some 6, .alloc 39, none, false⟩,
   ⟨some 5, .assign (.tmp 26), none, false⟩,
   ⟨none, .store 39 (.tmp 6) (.tmp 27), none, false⟩,
   ⟨some 7, .assign (.tmp 28), none, false⟩])
 (.seq (.reg [⟨some 29, .move (.tmp 0), none, false⟩,
   ⟨some 30, .move (.tmp 7), none, false⟩,
   ⟨some 31, .call { callee := (.value (.func 48)), args := #[(.tmp 29), (.tmp 30), (.const (.int .i64 76))], argTypes := #[80, 4, 32] }, none, false⟩])
 (.cond (.tmp 31)
 (.reg [⟨some 32, .move (.tmp 0), none, false⟩,
   ⟨some 33, .fieldAddr 39 (.tmp 6) 2, none, false⟩,
   ⟨some 34, .load 9 (.tmp 33), none, false⟩,
   ⟨some 35, .move (.tmp 2), none, false⟩,
   ⟨some 36, .buildSlice 22 1 #[(0, (.tmp 35))], none, false⟩,
   ⟨some 37, .fieldAddr 39 (.tmp 6) 1, none, false⟩,
   ⟨some 38, .load 22 (.tmp 37), none, false⟩,
   ⟨some 39, .call { callee := (.builtin .append), args := #[(.tmp 36), (.tmp 38)], argTypes := #[22, 22] }, none, false⟩,
   ⟨some 34, .load 9 (.tmp 33), none, true⟩,
   ⟨some 40, .call { callee := (.value (.func 154)), args := #[(.tmp 32), (.tmp 34), (.tmp 39)], argTypes := #[80, 9, 22] }, none, false⟩])
 (.skip))))
def fr96 : FR := ⟨41, [], cc96⟩
theorem fnis96 : FnIs Tryz.prog 96 fr96 := ⟨Tryz.f96, _, [], [], Tryz.func96, rfl, by kernel_rfl, by kernel_rfl, by kernel_rfl, by kernel_rfl⟩
/-- function 97 -/
def cc97 : CC :=
 .seq (.reg [⟨some 3, .move (.tmp 0), none, false⟩,
   ⟨some 4, .call { callee := (.value (.func 159)), args := #[(.tmp 3)], argTypes := #[80] }, none, false⟩,
   ⟨some 2, .assign (.tmp 4), none, false⟩])
 (.seq (.reg [⟨some 5, .move (.tmp 0), none, false⟩,
   ⟨some 6, .move (.tmp 2), none, false⟩,
   ⟨some 7, .binOp .add 9 (.tmp 6) (.const (.string { data := #[91, 93] })) 9, none, false⟩,
   ⟨some 8, .call { callee := (.value (.func 22)), args := #[(.tmp 7)], argTypes := #[9] }, none, false⟩,
   ⟨some 9, .call { callee := (.value (.func 48)), args := #[(.tmp 5), (.tmp 8), (.const (.int .i64 76))], argTypes := #[80, 4, 32] }, none, false⟩])
 (.reg [⟨some 10, .move (.tmp 0), none, false⟩,
   ⟨some 11, .move (.tmp 2), none, false⟩,
   ⟨some 12, .binOp .add 9 (.tmp 11) (.const (.string { data := #[91, 93] })) 9, none, false⟩,
   ⟨some 13, .buildSlice 22 1 #[(0, (.const (.string { data := #[105, 110, 116] })))], none, false⟩,
   ⟨some 14, .call { callee := (.value (.func 154)), args := #[(.tmp 10), (.tmp 12), (.tmp 13)], argTypes := #[80, 9, 22] }, none, false⟩]))
def fr97 : FR := ⟨15, [], cc97⟩
theorem fnis97 : FnIs Tryz.prog 97 fr97 := ⟨Tryz.f97, _, [], [], Tryz.func97, rfl, by kernel_rfl, by kernel_rfl, by kernel_rfl, by kernel_rfl⟩
/-- function 98 -/
def cc98 : CC :=
 .seq (.reg [⟨some 3, .move (.tmp 0), none, false⟩,
   ⟨some 4, .call { callee := (.value (.func 88)), args := #[(.tmp 3), (.const (.int .i64 2))], argTypes := #[80, 3] }, none, false⟩,
   ⟨some 2, .assign (.tmp 4), none, false⟩])
 (.seq (.reg [⟨some 5, .move (.tmp 0), none, false⟩,
   ⟨some 6, .move (.tmp 2), none, false⟩,
   ⟨some 7, .indexAddr 22 (.tmp 6) (.const (.int .i64 1)), none, false⟩,
   ⟨some 8, .load 9 (.tmp 7), none, false⟩,
   ⟨some 9, .call { callee := (.value (.func 160)), args := #[(.tmp 5), (.tmp 8), (.const (.string { data := #[105, 110, 116] }))], argTypes := #[80, 9, 9] }, none, false⟩])
 (.reg [⟨some 10, .move (.tmp 0), none, false⟩,
   ⟨some 11, .move (.tmp 0), none, false⟩,
   ⟨some 12, .move (.tmp 2), none, false⟩,
   ⟨some 13, .indexAddr 22 (.tmp 12) (.const (.int .i64 0)), none, false⟩,
   ⟨some 14, .load 9 (.tmp 13), none, false⟩,
   ⟨some 15, .call { callee := (.value (.func 155)), args := #[(.tmp 11), (.tmp 14)], argTypes := #[80, 9] }, none, false⟩,
   ⟨some 16, .buildSlice 22 1 #[(0, (.tmp 15))], none, false⟩,
   ⟨some 17, .call { callee := (.value (.func 151)), args := #[(.tmp 10), (.tmp 16)], argTypes := #[80, 22] }, none, false⟩]))
def fr98 : FR := ⟨18, [], cc98⟩
theorem fnis98 : FnIs Tryz.prog 98 fr98 := ⟨Tryz.f98, _, [], [], Tryz.func98, rfl, by kernel_rfl, by kernel_rfl, by kernel_rfl, by kernel_rfl⟩
/-- function 99 -/
def cc99 : CC :=
 .seq (.reg [⟨some 4, .move (.tmp 0), none, false⟩,
   ⟨some 5, .call { callee := (.value (.func 88)), args := #[(.tmp 4), (.const (.int .i64 3))], argTypes := #[80, 3] }, none, false⟩,
   ⟨some 2, .assign (.tmp 5), none, false⟩])
 (.seq (.reg [⟨some 3, .assign (.const (.string { data := #[] })), none, false⟩])
 (.seq (.seq (.reg [⟨some 6, .move (.tmp 0), none, false⟩,
   ⟨some 7, .nilCheck (.tmp 6), none, false⟩,
   ⟨some 8, .fieldAddr 83 (.tmp 7) 4, none, false⟩,
   ⟨some 9, .load 32 (.tmp 8), none, false⟩,
   ⟨some 10, .binOp .eql 32 (.tmp 9) (.const (.int .i64 0)) 32, none, false⟩])
 (.cond (.tmp 10)
 (.reg [⟨some 11, .move (.tmp 2), none, false⟩,
   ⟨some 12, .indexAddr 22 (.tmp 11) (.const (.int .i64 0)), none, false⟩,
   ⟨some 13, .load 9 (.tmp 12), none, false⟩,
   ⟨some 14, .call { callee := (.value (.func 112)), args := #[(.tmp 13)], argTypes := #[9] }, none, false⟩,
   ⟨some 3, .assign (.tmp 14), none, false⟩])
 (.skip)))
 (.seq (.reg [⟨some 15, .move (.tmp 0), none, false⟩,
   ⟨some 16, .move (.tmp 3), none, false⟩,
   ⟨some 17, .binOp .neq 9 (.tmp 16) (.const (.string { data := #[] })) 9, none, false⟩,
   ⟨some 18, .call { callee := (.value (.func 48)), args := #[(.tmp 15), (.tmp 17), (.const (.int .i64 73))], argTypes := #[80, 4, 32] }, none, false⟩])
 (.seq (.reg [⟨some 19, .move (.tmp 0), none, false⟩,
   ⟨some 20, .move (.tmp 2), none, false⟩,
   ⟨some 21, .indexAddr 22 (.tmp 20) (.const (.int .i64 2)), none, false⟩,
   ⟨some 22, .load 9 (.tmp 21), none, false⟩,
   ⟨some 23, .move (.tmp 3), none, false⟩,
   ⟨some 24, .call { callee := (.value (.func 160)), args := #[(.tmp 19), (.tmp 22), (.tmp 23)], argTypes := #[80, 9, 9] }, none, false⟩])
 (.reg [⟨some 25, .move (.tmp 0), none, false⟩,
   ⟨some 26, .move (.tmp 2), none, false⟩,
   ⟨some 27, .indexAddr 22 (.tmp 26) (.const (.int .i64 1)), none, false⟩,
   ⟨some 28, .load 9 (.tmp 27), none, false⟩,
   ⟨some 29, .call { callee := (.value (.func 160)), args := #[(.tmp 25), (.tmp 28), (.const (.string { data := #[105, 110, 116] }))], argTypes := #[80, 9, 9] }, none, false⟩])))))
def fr99 : FR := ⟨30, [], cc99⟩
theorem fnis99 : FnIs Tryz.prog 99 fr99 := ⟨Tryz.f99, _, [], [], Tryz.func99, rfl, by kernel_rfl, by kernel_rfl, by kernel_rfl, by kernel_rfl⟩
/-- function 100 -/
def cc100 : CC :=
 .seq (.reg [⟨some 2, .move (.tmp 0), none, false⟩,
   ⟨some 3, .call { callee := (.value (.func 159)), args := #[(.tmp 2)], argTypes := #[80] }, none, false⟩])
 (.seq (.reg [⟨some 4, .move (.tmp 0), none, false⟩,
   ⟨some 5, .call { callee := (.value (.func 161)), args := #[(.tmp 4)], argTypes := #[80] }, none, false⟩])
 (.reg [⟨some 6, .move (.tmp 0), none, false⟩,
   ⟨some 7, .buildSlice 22 1 #[(0, (.const (.string { data := #[98, 111, 111, 108] })))], none, false⟩,
   ⟨some 8, .call { callee := (.value (.func 151)), args := #[(.tmp 6), (.tmp 7)], argTypes := #[80, 22] }, none, false⟩]))
def fr100 : FR := ⟨9, [], cc100⟩
theorem fnis100 : FnIs Tryz.prog 100 fr100 := ⟨Tryz.f100, _, [], [], Tryz.func100, rfl, by kernel_rfl, by kernel_rfl, by kernel_rfl, by kernel_rfl⟩
/-- function 101 -/
def cc101 : CC :=
 .seq (.reg [⟨some 3, .move (.tmp 0), none, false⟩,
   ⟨some 4, .call { callee := (.value (.func 159)), args := #[(.tmp 3)], argTypes := #[80] }, none, false⟩,
   ⟨some 2, .assign (.tmp 4), none, false⟩])
 (.seq (.reg [⟨some 5, .move (.tmp 0), none, false⟩,
   ⟨some 6, .call { callee := (.value (.func 161)), args := #[(.tmp 5)], argTypes := #[80] }, none, false⟩])
 (.reg [⟨some 7, .move (.tmp 0), none, false⟩,
   ⟨some 8, .move (.tmp 2), none, false⟩,
   ⟨some 9, .buildSlice 22 1 #[(0, (.tmp 8))], none, false⟩,
   ⟨some 10, .call { callee := (.value (.func 151)), args := #[(.tmp 7), (.tmp 9)], argTypes := #[80, 22] }, none, false⟩]))
def fr101 : FR := ⟨11, [], cc101⟩
theorem fnis101 : FnIs Tryz.prog 101 fr101 := ⟨Tryz.f101, _, [], [], Tryz.func101, rfl, by kernel_rfl, by kernel_rfl, by kernel_rfl, by kernel_rfl⟩
/-- function 102 -/
def cc102 : CC :=
 .seq (.reg [⟨some 2, .move (.tmp 0), none, false⟩,
   ⟨some 3, .nilCheck (.tmp 2), none, false⟩,
   ⟨some 4, .fieldAddr 83 (.tmp 3) 1, none, false⟩,
   ⟨some 5, .fieldAddr 39 (.tmp 4) 2, none, false⟩,
   ⟨some 6, .load 9 (.tmp 5), none, false⟩,
   ⟨some 7, .binOp .neq 9 (.tmp 6) (.const (.string { data := #[] })) 9, none, false⟩])
 (.cond (.tmp 7)
 (.reg [⟨some 8, .move (.tmp 0), none, false⟩,
   ⟨some 9, .move (.tmp 0), none, false⟩,
   ⟨some 10, .nilCheck (.tmp 9), none, false⟩,
   ⟨some 11, .fieldAddr 83 (.tmp 10) 1, none, false⟩,
   ⟨some 12, .fieldAddr 39 (.tmp 11) 2, none, false⟩,
   ⟨some 13, .load 9 (.tmp 12), none, false⟩,
   ⟨some 14, .buildSlice 22 1 #[(0, (.tmp 13))], none, false⟩,
   ⟨some 15, .call { callee := (.value (.func 154)), args := #[(.tmp 8), (.const (.string { data := #[] })), (.tmp 14)], argTypes := #[80, 9, 22] }, none, false⟩])
 (.skip))
def fr102 : FR := ⟨16, [], cc102⟩
theorem fnis102 : FnIs Tryz.prog 102 fr102 := ⟨Tryz.f102, _, [], [], Tryz.func102, rfl, by kernel_rfl, by kernel_rfl, by kernel_rfl, by kernel_rfl⟩
/-- function 103 -/
def cc103 : CC :=
 .seq (.reg [⟨some 3, .move (.tmp 0), none, false⟩,
   ⟨some 4, .call { callee := (.value (.func 88)), args := #[(.tmp 3), (.const (.int .i64 2))], argTypes := #[80, 3] }, none, false⟩,
   ⟨some 2, .assign (.tmp 4), none, false⟩])
 (.seq (.reg [⟨some 5, .move (.tmp 0), none, false⟩,
   ⟨some 6, .move (.tmp 2), none, false⟩,
   ⟨some 7, .indexAddr 22 (.tmp 6) (.const (.int .i64 1)), none, false⟩,
   ⟨some 8, .load 9 (.tmp 7), none, false⟩,
   ⟨some 9, .call { callee := (.value (.func 162)), args := #[(.tmp 5), (.tmp 8)], argTypes := #[80, 9] }, none, false⟩])
 (.seq (.reg [⟨some 10, .move (.tmp 0), none, false⟩,
   ⟨some 11, .move (.tmp 2), none, false⟩,
   ⟨some 12, .indexAddr 22 (.tmp 11) (.const (.int .i64 0)), none, false⟩,
   ⟨some 13, .load 9 (.tmp 12), none, false⟩,
   ⟨some 14, .call { callee := (.value (.func 162)), args := #[(.tmp 10), (.tmp 13)], argTypes := #[80, 9] }, none, false⟩])
 (.reg [⟨some 15, .move (.tmp 0), none, false⟩,
   ⟨some 16, .buildSlice 22 1 #[(0, (.const (.string { data := #[98, 111, 111, 108] })))], none, false⟩,
   ⟨some 17, .call { callee := (.value (.func 151)), args := #[(.tmp 15), (.tmp 16)], argTypes := #[80, 22] }, none, false⟩])))
def fr103 : FR := ⟨18, [], cc103⟩
theorem fnis103 : FnIs Tryz.prog 103 fr103 := ⟨Tryz.f103, _, [], [], Tryz.func103, rfl, by kernel_rfl, by kernel_rfl, by kernel_rfl, by kernel_rfl⟩
/-- function 104 -/
def cc104 : CC :=
 .reg [⟨some 2, .move (.tmp 0), none, false⟩,
   ⟨some 3, .buildSlice 22 2 #[(0, (.const (.string { data := #[105, 110, 116] }))), (1, (.const (.string { data := #[105, 110, 116] })))], none, false⟩,
   ⟨some 4, .call { callee := (.value (.func 154)), args := #[(.tmp 2), (.const (.string { data := #[105, 110, 116] })), (.tmp 3)], argTypes := #[80, 9, 22] }, none, false⟩]
def fr104 : FR := ⟨5, [], cc104⟩
theorem fnis104 : FnIs Tryz.prog 104 fr104 := ⟨Tryz.f104, _, [], [], Tryz.func104, rfl, by kernel_rfl, by kernel_rfl, by kernel_rfl, by kernel_rfl⟩
/-- function 105 -/
def cc105 : CC :=
 .seq (.reg [⟨some 4, .assign (.const (.bool false)), none, false⟩])
 (.seq (.reg [⟨some 5, .move (.tmp 0), none, false⟩,
   ⟨some 6, .move (.tmp 1), none, false⟩,
   ⟨some 7, .nilCheck (.tmp 5), none, false⟩,
   ⟨some 8, .indexAddr 91 (.tmp 7) (.tmp 6), none, false⟩,
   ⟨some 9, .load 4 (.tmp 8), none, false⟩,
   ⟨some 4, .assign (.tmp 9), none, false⟩])
 (.ret))
def fr105 : FR := ⟨10, [.tmp 4], cc105⟩
theorem fnis105 : FnIs Tryz.prog 105 fr105 := ⟨Tryz.f105, _, [], [], Tryz.func105, rfl, by kernel_rfl, by kernel_rfl, by kernel_rfl, by kernel_rfl⟩
/-- function 106 -/
def cc106 : CC :=
 .seq (.reg [⟨some 2, .assign (.const (.int .i32 0)), none, false⟩,
   ⟨some 3, .assign (.const (.int .i64 0)), none, false⟩])
 (.seq (.reg [⟨some 7, .move (.tmp 0), none, false⟩,
   ⟨some 8, .call { callee := (.builtin .len), args := #[(.tmp 7)], argTypes := #[9] }, none, false⟩,
   ⟨some 4, .assign (.tmp 8), none, false⟩])
 (.seq (.seq (.reg [⟨some 9, .move (.tmp 4), none, false⟩,
   ⟨some 10, .binOp .eql 3 (.tmp 9) (.const (.int .i64 0)) 3, none, false⟩])
 (.cond (.tmp 10)
 (.seq (.reg [⟨some 2, .assign (.const (.int .i32 65533)), none, false⟩,
   ⟨some 3, .assign (.const (.int .i64 0)), none, false⟩])
 (.ret))
 (.skip)))
 (.seq (.reg [⟨some 11, .move (.tmp 4), none, false⟩,
   ⟨some 12, .binOp .sub 3 (.tmp 11) (.const (.int .i64 1)) 3, none, false⟩,
   ⟨some 5, .assign (.tmp 12), none, false⟩])
 (.seq (.reg [⟨some 13, .move (.tmp 0), none, false⟩,
   ⟨some 14, .move (.tmp 5), none, false⟩,
   ⟨some 15, .index 9 (.tmp 13) (.tmp 14), none, false⟩,
   ⟨some 16, .convert 5 21 (.tmp 15), none, false⟩,
   ⟨some 2, .assign (.tmp 16), none, false⟩])
 (.seq (.seq (.reg [⟨some 17, .move (.tmp 2), none, false⟩,
   ⟨some 18, .binOp .lss 21 (.tmp 17) (.const (.int .i32 128)) 21, none, false⟩])
 (.cond (.tmp 18)
 (.seq (.reg [⟨some 19, .move (.tmp 2), none, false⟩,
   ⟨some 2, .assign (.tmp 19), none, false⟩,
   ⟨some 3, .assign (.const (.int .i64 1)), none, false⟩])
 (.ret))
 (.skip)))
 (.seq (.reg [⟨some 20, .move (.tmp 4), none, false⟩,
   ⟨some 21, .binOp .sub 3 (.tmp 20) (.const (.int .i64 4)) 3, none, false⟩,
   ⟨some 22, .call { callee := (.builtin .max), args := #[(.tmp 21), (.const (.int .i64 0))], argTypes := #[3, 3] }, none, false⟩,
   ⟨some 6, .assign (.tmp 22), none, false⟩])
 (.seq (.seq (.reg [⟨some 23, .move (.tmp 5), none, false⟩,
   ⟨some 24, .binOp .sub 3 (.tmp 23) (.const (.int .i64 1)) 3, none, false⟩,
   ⟨some 5, .assign (.tmp 24), none, false⟩])
 (.block 0
 (.loop [0, 4, 5, 6]
 (.seq (.seq (.reg [⟨some 25, .move (.tmp 5), none, false⟩,
   ⟨some 26, .move (.tmp 6), none, false⟩,
   ⟨some 27, .binOp .geq 3 (.tmp 25) (.tmp 26) 3, none, false⟩])
 (.cond (.tmp 27)
 (.skip)
 (.exit 0)))
 (.seq (.block 1
 (.seq (.reg [⟨some 30, .move (.tmp 0), none, false⟩,
   ⟨some 31, .move (.tmp 5), none, false⟩,
   ⟨some 32, .index 9 (.tmp 30) (.tmp 31), none, false⟩,
   ⟨some 33, .call { callee := (.value (.func 163)), args := #[(.tmp 32)], argTypes := #[5] }, none, false⟩])
 (.cond (.tmp 33)
 (.exit 0)
 (.skip))))
 (.reg [⟨some 28, .move (.tmp 5), none, false⟩,
   ⟨some 29, .binOp .sub 3 (.tmp 28) (.const (.int .i64 1)) 3, none, false⟩,
   ⟨some 5, .assign (.tmp 29), none, false⟩]))))))
 (.seq (.seq (.reg [⟨some 34, .move (.tmp 5), none, false⟩,
   ⟨some 35, .binOp .lss 3 (.tmp 34) (.const (.int .i64 0)) 3, none, false⟩])
 (.cond (.tmp 35)
 (.reg [⟨some 5, .assign (.const (.int .i64 0)), none, false⟩])
 (.skip)))
 (.seq (.reg [⟨some 37, .move (.tmp 0), none, false⟩,
   ⟨some 38, .move (.tmp 5), none, false⟩,
   ⟨some 39, .move (.tmp 4), none, false⟩,
   ⟨some 40, .slice 9 (.tmp 37) (some (.tmp 38)) (some (.tmp 39)) none, none, false⟩,
   ⟨some 41, .call { callee := (.value (.func 164)), args := #[(.tmp 40)], argTypes := #[9] }, none, false⟩,
   ⟨some 36, .move (.tmp 41), none, false⟩,
   ⟨some 42, .extract (.tmp 36) 0, none, false⟩,
   ⟨some 43, .extract (.tmp 36) 1, none, false⟩,
   ⟨some 2, .assign (.tmp 42), none, false⟩,
   ⟨some 3, .assign (.tmp 43), none, false⟩])
 (.seq (.seq (.reg [⟨some 44, .move (.tmp 5), none, false⟩,
   ⟨some 45, .move (.tmp 3), none, false⟩,
   ⟨some 46, .binOp .add 3 (.tmp 44) (.tmp 45) 3, none, false⟩,
   ⟨some 47, .move (.tmp 4), none, false⟩,
   ⟨some 48, .binOp .neq 3 (.tmp 46) (.tmp 47) 3, none, false⟩])
 (.cond (.tmp 48)
 (.seq (.reg [⟨some 2, .assign (.const (.int .i32 65533)), none, false⟩,
   ⟨some 3, .assign (.const (.int .i64 1)), none, false⟩])
 (.ret))
 (.skip)))
 (.seq (.reg [⟨some 49, .move (.tmp 2), none, false⟩,
   ⟨some 50, .move (.tmp 3), none, false⟩,
   ⟨some 2, .assign (.tmp 49), none, false⟩,
   ⟨some 3, .assign (.tmp 50), none, false⟩])
 (.ret))))))))))))
def fr106 : FR := ⟨51, [.tmp 2, .tmp 3], cc106⟩
theorem fnis106 : FnIs Tryz.prog 106 fr106 := ⟨Tryz.f106, _, [[0, 4, 5, 6]], [], Tryz.func106, rfl, by kernel_rfl, by kernel_rfl, by kernel_rfl, by kernel_rfl⟩
/-- function 107 -/
def cc107 : CC :=
 .seq (.reg [⟨some 4, .assign (.const (.bool false)), none, false⟩])
 (.seq (.reg [⟨some 5, .move (.tmp 0), none, false⟩,
   ⟨some 6, .move (.tmp 1), none, false⟩,
   ⟨some 7, .call { callee := (.value (.func 165)), args := #[(.tmp 5), (.tmp 6)], argTypes := #[9, 21] }, none, false⟩,
   ⟨some 8, .binOp .geq 3 (.tmp 7) (.const (.int .i64 0)) 3, none, false⟩,
   ⟨some 4, .assign (.tmp 8), none, false⟩])
 (.ret))
def fr107 : FR := ⟨9, [.tmp 4], cc107⟩
theorem fnis107 : FnIs Tryz.prog 107 fr107 := ⟨Tryz.f107, _, [], [], Tryz.func107, rfl, by kernel_rfl, by kernel_rfl, by kernel_rfl, by kernel_rfl⟩
/-- function 108 -/
def cc108 : CC :=
 .seq (.reg [⟨some 4, .assign (.const (.bool false)), none, false⟩])
 (.seq (.reg [⟨some 5, .move (.tmp 0), none, false⟩,
   ⟨some 6, .move (.tmp 1), none, false⟩,
   ⟨some 7, .call { callee := (.value (.func 166)), args := #[(.tmp 5), (.tmp 6)], argTypes := #[9, 9] }, none, false⟩,
   ⟨some 4, .assign (.tmp 7), none, false⟩])
 (.ret))
def fr108 : FR := ⟨8, [.tmp 4], cc108⟩
theorem fnis108 : FnIs Tryz.prog 108 fr108 := ⟨Tryz.f108, _, [], [], Tryz.func108, rfl, by kernel_rfl, by kernel_rfl, by kernel_rfl, by kernel_rfl⟩
/-- function 109 -/
def cc109 : CC :=
 .seq (.reg [⟨some 4, .assign (.const (.string { data := #[] })), none, false⟩])
 (.seq (.reg [⟨some 5, .move (.tmp 0), none, false⟩,
   ⟨some 6, .move (.tmp 1), none, false⟩,
   ⟨some 7, .call { callee := (.value (.func 167)), args := #[(.tmp 5), (.tmp 6)], argTypes := #[9, 9] }, none, false⟩,
   ⟨some 4, .assign (.tmp 7), none, false⟩])
 (.ret))
def fr109 : FR := ⟨8, [.tmp 4], cc109⟩
theorem fnis109 : FnIs Tryz.prog 109 fr109 := ⟨Tryz.f109, _, [], [], Tryz.func109, rfl, by kernel_rfl, by kernel_rfl, by kernel_rfl, by kernel_rfl⟩
/-- function 110 -/
def cc110 : CC :=
 .seq (.reg [⟨some 2, .assign (.const (.bool false)), none, false⟩])
 (.seq (.seq (.reg [⟨some 3, .move (.tmp 0), none, false⟩,
   ⟨some 4, .binOp .eql 9 (.tmp 3) (.const (.string { data := #[] })) 9, none, false⟩,
   ⟨some 5, .move (.tmp 4), none, false⟩,
   ⟨some 6, .move (.tmp 0), some (5, false), false⟩,
   ⟨some 7, .call { callee := (.builtin .len), args := #[(.tmp 6)], argTypes := #[9] }, some (5, false), false⟩,
   ⟨some 8, .binOp .gtr 3 (.tmp 7) (.const (.int .i64 32)) 3, some (5, false), false⟩,
   ⟨some 9, .pick (.tmp 5) (.const (.bool true)) (.tmp 8), none, false⟩,
   ⟨some 10, .move (.tmp 9), none, false⟩,
   ⟨some 11, .move (.tmp 0), some (10, false), false⟩,
   ⟨some 12, .index 9 (.tmp 11) (.const (.int .i64 0)), some (10, false), false⟩,
   ⟨some 13, .binOp .geq 5 (.tmp 12) (.const (.int .u8 48)) 5, some (10, false), false⟩,
   ⟨some 14, .move (.tmp 13), some (10, false), false⟩,
   ⟨some 15, .move (.tmp 0), some (14, true), false⟩,
   ⟨some 16, .index 9 (.tmp 15) (.const (.int .i64 0)), some (14, true), false⟩,
   ⟨some 17, .binOp .leq 5 (.tmp 16) (.const (.int .u8 57)) 5, some (14, true), false⟩,
   ⟨some 18, .pick (.tmp 14) (.tmp 17) (.const (.bool false)), some (10, false), false⟩,
   ⟨some 19, .pick (.tmp 10) (.const (.bool true)) (.tmp 18), none, false⟩])
 (.cond (.tmp 19)
 (.seq (.reg [⟨some 2, .assign (.const (.bool false)), none, false⟩])
 (.ret))
 (.skip)))
 (.seq (.reg [⟨some 20, .move (.tmp 0), none, false⟩,
   ⟨some 21, .call { callee := (.value (.func 168)), args := #[(.tmp 20), (.func 169)], argTypes := #[9, 128] }, none, false⟩,
   ⟨some 2, .assign (.tmp 21), none, false⟩])
 (.ret)))
def fr110 : FR := ⟨22, [.tmp 2], cc110⟩
theorem fnis110 : FnIs Tryz.prog 110 fr110 := ⟨Tryz.f110, _, [], [], Tryz.func110, rfl, by kernel_rfl, by kernel_rfl, by kernel_rfl, by kernel_rfl⟩
/-- function 111 -/
def cc111 : CC :=
 .seq (.reg [⟨some 2, .assign (.const (.bool false)), none, false⟩])
 (.seq (.reg [⟨some 3, .move (.tmp 0), none, false⟩,
   ⟨some 4, .binOp .geq 21 (.tmp 3) (.const (.int .i32 65)) 21, none, false⟩,
   ⟨some 5, .move (.tmp 4), none, false⟩,
   ⟨some 6, .move (.tmp 0), some (5, true), false⟩,
   ⟨some 7, .binOp .leq 21 (.tmp 6) (.const (.int .i32 90)) 21, some (5, true), false⟩,
   ⟨some 8, .pick (.tmp 5) (.tmp 7) (.const (.bool false)), none, false⟩,
   ⟨some 2, .assign (.tmp 8), none, false⟩])
 (.ret))
def fr111 : FR := ⟨9, [.tmp 2], cc111⟩
theorem fnis111 : FnIs Tryz.prog 111 fr111 := ⟨Tryz.f111, _, [], [], Tryz.func111, rfl, by kernel_rfl, by kernel_rfl, by kernel_rfl, by kernel_rfl⟩
/-- function 112 -/
def cc112 : CC :=
 .seq (.reg [⟨some 2, .assign (.const (.string { data := #[] })), none, false⟩])
 (.seq (.reg [⟨some 6, .move (.tmp 0), none, false⟩,
   ⟨some 7, .call { callee := (.value (.func 171)), args := #[(.tmp 6), (.const (.string { data := #[91, 93] }))], argTypes := #[9, 9] }, none, false⟩,
   ⟨some 5, .move (.tmp 7), none, false⟩,
   ⟨some 8, .extract (.tmp 5) 0, none, false⟩,
   ⟨some 9, .extract (.tmp 5) 1, none, false⟩,
   ⟨some 3, .assign (.tmp 8), none, false⟩,
   ⟨some 4, .assign (.tmp 9), none, false⟩])
 (.seq (.seq (.reg [⟨some 10, .move (.tmp 4), none, false⟩,
   ⟨some 11, .unOp .not 4 (.tmp 10), none, false⟩,
   ⟨some 12, .move (.tmp 11), none, false⟩,
   ⟨some 13, .move (.tmp 0), some (12, false), false⟩,
   ⟨some 14, .call { callee := (.value (.func 22)), args := #[(.tmp 13)], argTypes := #[9] }, some (12, false), false⟩,
   ⟨some 15, .unOp .not 4 (.tmp 14), some (12, false), false⟩,
   ⟨some 16, .pick (.tmp 12) (.const (.bool true)) (.tmp 15), none, false⟩])
 (.cond (.tmp 16)
 (.seq (.reg [⟨some 2, .assign (.const (.string { data := #[] })), none, false⟩])
 (.ret))
 (.skip)))
 (.seq (.reg [⟨some 17, .move (.tmp 3), none, false⟩,
   ⟨some 2, .assign (.tmp 17), none, false⟩])
 (.ret))))
def fr112 : FR := ⟨18, [.tmp 2], cc112⟩
theorem fnis112 : FnIs Tryz.prog 112 fr112 := ⟨Tryz.f112, _, [], [], Tryz.func112, rfl, by kernel_rfl, by kernel_rfl, by kernel_rfl, by kernel_rfl⟩
/-- function 113 -/
def cc113 : CC :=
 .seq (.reg [⟨some 2, .box 65 (.tmp 0), none, false⟩,
   ⟨some 3, .assign (.const (.bool false)), none, false⟩])
 (.seq (.reg [⟨some 4, .fieldAddr 65 (.tmp 2) 0, none, false⟩,
   ⟨some 5, .load 9 (.tmp 4), none, false⟩,
   ⟨some 6, .load 9 (.tmp 1), none, false⟩,
   ⟨some 7, .binOp .eql 9 (.tmp 5) (.tmp 6) 9, none, false⟩,
   ⟨some 3, .assign (.tmp 7), none, false⟩])
 (.ret))
def fr113 : FR := ⟨8, [.tmp 3], cc113⟩
theorem fnis113 : FnIs Tryz.prog 113 fr113 := ⟨Tryz.f113, _, [], [], Tryz.func113, rfl, by kernel_rfl, by kernel_rfl, by kernel_rfl, by kernel_rfl⟩
/-- function 114 -/
def cc114 : CC :=
 .seq (.reg [⟨some 4, .assign (.const (.bool false)), none, false⟩])
 (.seq (.reg [⟨some 5, .move (.tmp 0), none, false⟩,
   ⟨some 6, .move (.tmp 1), none, false⟩,
   ⟨some 7, .call { callee := (.value (.func 172)), args := #[(.tmp 5), (.tmp 6)], argTypes := #[22, 9] }, none, false⟩,
   ⟨some 8, .binOp .geq 3 (.tmp 7) (.const (.int .i64 0)) 3, none, false⟩,
   ⟨some 4, .assign (.tmp 8), none, false⟩])
 (.ret))
def fr114 : FR := ⟨9, [.tmp 4], cc114⟩
theorem fnis114 : FnIs Tryz.prog 114 fr114 := ⟨Tryz.f114, _, [], [], Tryz.func114, rfl, by kernel_rfl, by kernel_rfl, by kernel_rfl, by kernel_rfl⟩
/-- function 115 -/
def cc115 : CC :=
 .seq (.reg [⟨some 1, .box 39 (.tmp 0), none, false⟩,
   ⟨some 2, .assign (.const (.bool false)), none, false⟩])
 (.seq (.reg [⟨some 3, .fieldAddr 39 (.tmp 1) 3, none, false⟩,
   ⟨some 4, .load 4 (.tmp 3), none, false⟩,
   ⟨some 2, .assign (.tmp 4), none, false⟩])
 (.ret))
def fr115 : FR := ⟨5, [.tmp 2], cc115⟩
theorem fnis115 : FnIs Tryz.prog 115 fr115 := ⟨Tryz.f115, _, [], [], Tryz.func115, rfl, by kernel_rfl, by kernel_rfl, by kernel_rfl, by kernel_rfl⟩
/-- function 116 -/
def cc116 : CC :=
 .seq (.reg [⟨some 1, .box 39 (.tmp 0), none, false⟩,
   ⟨some 2, .assign (.const (.bool false)), none, false⟩])
 (.seq (.reg [⟨some 3, .fieldAddr 39 (.tmp 1) 3, none, false⟩,
   ⟨some 4, .load 4 (.tmp 3), none, false⟩,
   ⟨some 5, .unOp .not 4 (.tmp 4), none, false⟩,
   ⟨some 2, .assign (.tmp 5), none, false⟩])
 (.ret))
def fr116 : FR := ⟨6, [.tmp 2], cc116⟩
theorem fnis116 : FnIs Tryz.prog 116 fr116 := ⟨Tryz.f116, _, [], [], Tryz.func116, rfl, by kernel_rfl, by kernel_rfl, by kernel_rfl, by kernel_rfl⟩
/-- function 117 -/
def cc117 : CC :=
 .seq (.reg [⟨some 3, .box 31 (.tmp 1), none, false⟩,
   ⟨some 4, .assign (.const (.bool false)), none, false⟩])
 (.seq (.reg [⟨some 5, .move (.tmp 0), none, false⟩,
   ⟨some 6, .makeFunc (.func 173) #[] #[(.tmp 3)], none, false⟩,
   ⟨some 7, .call { callee := (.value (.func 65)), args := #[(.tmp 5), (.tmp 6)], argTypes := #[22, 31] }, none, false⟩,
   ⟨some 8, .unOp .not 4 (.tmp 7), none, false⟩,
   ⟨some 4, .assign (.tmp 8), none, false⟩])
 (.ret))
def fr117 : FR := ⟨9, [.tmp 4], cc117⟩
theorem fnis117 : FnIs Tryz.prog 117 fr117 := ⟨Tryz.f117, _, [], [], Tryz.func117, rfl, by kernel_rfl, by kernel_rfl, by kernel_rfl, by kernel_rfl⟩
/-- function 118 -/
def cc118 : CC :=
 .seq (.reg [⟨some 3, .box 129 (.tmp 1), none, false⟩,
   ⟨some 4, .assign (.const (.bool false)), none, false⟩])
 (.seq (.seq (.reg [⟨some 7, .move (.tmp 0), none, false⟩,
   ⟨some 8, .call { callee := (.builtin .len), args := #[(.tmp 7)], argTypes := #[22] }, none, false⟩,
   ⟨some 9, .move (.const (.int .i64 0)), none, false⟩])
 (.block 0
 (.loop [0, 3, 7, 8, 9]
 (.seq (.reg [⟨some 10, .binOp .lss 3 (.tmp 9) (.tmp 8) 3, none, false⟩])
 (.seq (.cond (.tmp 10)
 (.skip)
 (.exit 0))
 (.seq (.block 1
 (.seq (.reg [⟨some 11, .move (.tmp 9), none, false⟩,
   ⟨some 12, .indexAddr 22 (.tmp 7) (.tmp 9), none, false⟩,
   ⟨some 13, .load 9 (.tmp 12), none, false⟩,
   ⟨some 6, .alloc 9, none, false⟩,
   ⟨some 5, .assign (.tmp 11), none, false⟩,
   ⟨none, .store 9 (.tmp 6) (.tmp 13), none, false⟩])
 (.seq (.reg [⟨some 14, .move (.tmp 0), none, false⟩,
   ⟨some 15, .move (.tmp 5), none, false⟩,
   ⟨some 16, .slice 22 (.tmp 14) none (some (.tmp 15)) none, none, false⟩,
   ⟨some 17, .makeFunc (.func 174) #[] #[(.tmp 3), (.tmp 6)], none, false⟩,
   ⟨some 18, .call { callee := (.value (.func 65)), args := #[(.tmp 16), (.tmp 17)], argTypes := #[22, 31] }, none, false⟩])
 (.cond (.tmp 18)
 (.seq (.reg [⟨some 4, .assign (.const (.bool false)), none, false⟩])
 (.ret))
 (.skip)))))
 (.reg [⟨some 19, .binOp .add 3 (.tmp 9) (.const (.int .i64 1)) 3, none, false⟩,
   ⟨some 9, .move (.tmp 19), none, false⟩])))))))
 (.seq (.reg [⟨some 4, .assign (.const (.bool true)), none, false⟩])
 (.ret)))
def fr118 : FR := ⟨20, [.tmp 4], cc118⟩
theorem fnis118 : FnIs Tryz.prog 118 fr118 := ⟨Tryz.f118, _, [[0, 3, 7, 8, 9]], [], Tryz.func118, rfl, by kernel_rfl, by kernel_rfl, by kernel_rfl, by kernel_rfl⟩
/-- function 119 -/
def cc119 : CC :=
 .seq (.reg [⟨some 2, .assign (.const (.string { data := #[] })), none, false⟩])
 (.seq (.reg [⟨some 3, .move (.tmp 0), none, false⟩,
   ⟨some 2, .assign (.tmp 3), none, false⟩])
 (.ret))
def fr119 : FR := ⟨4, [.tmp 2], cc119⟩
theorem fnis119 : FnIs Tryz.prog 119 fr119 := ⟨Tryz.f119, _, [], [], Tryz.func119, rfl, by kernel_rfl, by kernel_rfl, by kernel_rfl, by kernel_rfl⟩
/-- function 120 -/
def cc120 : CC :=
 .seq (.reg [⟨some 3, .box 133 (.tmp 1), none, false⟩,
   ⟨some 4, .assign (.const (.bool false)), none, false⟩])
 (.seq (.seq (.reg [⟨some 7, .move (.tmp 0), none, false⟩,
   ⟨some 8, .call { callee := (.builtin .len), args := #[(.tmp 7)], argTypes := #[62] }, none, false⟩,
   ⟨some 9, .move (.const (.int .i64 0)), none, false⟩])
 (.block 0
 (.loop [0, 3, 7, 8, 9]
 (.seq (.reg [⟨some 10, .binOp .lss 3 (.tmp 9) (.tmp 8) 3, none, false⟩])
 (.seq (.cond (.tmp 10)
 (.skip)
 (.exit 0))
 (.seq (.block 1
 (.seq (.reg [⟨some 11, .move (.tmp 9), none, false⟩,
   ⟨some 12, .indexAddr 62 (.tmp 7) (.tmp 9), none, false⟩,
   ⟨some 13, .load 72 (.tmp 12), none, false⟩,
   ⟨some 6, .alloc 72, none, false⟩,
   ⟨some 5, .assign (.tmp 11), none, false⟩,
   ⟨none, .store 72 (.tmp 6) (.tmp 13), none, false⟩])
 (.seq (.reg [⟨some 14, .move (.tmp 0), none, false⟩,
   ⟨some 15, .move (.tmp 5), none, false⟩,
   ⟨some 16, .slice 62 (.tmp 14) none (some (.tmp 15)) none, none, false⟩,
   ⟨some 17, .makeFunc (.func 176) #[] #[(.tmp 3), (.tmp 6)], none, false⟩,
   ⟨some 18, .call { callee := (.value (.func 175)), args := #[(.tmp 16), (.tmp 17)], argTypes := #[62, 136] }, none, false⟩])
 (.cond (.tmp 18)
 (.seq (.reg [⟨some 4, .assign (.const (.bool false)), none, false⟩])
 (.ret))
 (.skip)))))
 (.reg [⟨some 19, .binOp .add 3 (.tmp 9) (.const (.int .i64 1)) 3, none, false⟩,
   ⟨some 9, .move (.tmp 19), none, false⟩])))))))
 (.seq (.reg [⟨some 4, .assign (.const (.bool true)), none, false⟩])
 (.ret)))
def fr120 : FR := ⟨20, [.tmp 4], cc120⟩
theorem fnis120 : FnIs Tryz.prog 120 fr120 := ⟨Tryz.f120, _, [[0, 3, 7, 8, 9]], [], Tryz.func120, rfl, by kernel_rfl, by kernel_rfl, by kernel_rfl, by kernel_rfl⟩
/-- function 121 -/
def cc121 : CC :=
 .seq (.reg [⟨some 1, .box 72 (.tmp 0), none, false⟩,
   ⟨some 2, .assign (.const (.string { data := #[] })), none, false⟩])
 (.seq (.reg [⟨some 3, .fieldAddr 72 (.tmp 1) 0, none, false⟩,
   ⟨some 4, .load 9 (.tmp 3), none, false⟩,
   ⟨some 2, .assign (.tmp 4), none, false⟩])
 (.ret))
def fr121 : FR := ⟨5, [.tmp 2], cc121⟩
theorem fnis121 : FnIs Tryz.prog 121 fr121 := ⟨Tryz.f121, _, [], [], Tryz.func121, rfl, by kernel_rfl, by kernel_rfl, by kernel_rfl, by kernel_rfl⟩
/-- function 122 -/
def cc122 : CC :=
 .seq (.reg [⟨some 3, .box 113 (.tmp 1), none, false⟩,
   ⟨some 4, .assign (.const (.bool false)), none, false⟩])
 (.seq (.seq (.reg [⟨some 7, .move (.tmp 0), none, false⟩,
   ⟨some 8, .call { callee := (.builtin .len), args := #[(.tmp 7)], argTypes := #[63] }, none, false⟩,
   ⟨some 9, .move (.const (.int .i64 0)), none, false⟩])
 (.block 0
 (.loop [0, 3, 7, 8, 9]
 (.seq (.reg [⟨some 10, .binOp .lss 3 (.tmp 9) (.tmp 8) 3, none, false⟩])
 (.seq (.cond (.tmp 10)
 (.skip)
 (.exit 0))
 (.seq (.block 1
 (.seq (.reg [⟨some 11, .move (.tmp 9), none, false⟩,
   ⟨some 12, .indexAddr 63 (.tmp 7) (.tmp 9), none, false⟩,
   ⟨some 13, .load 39 (.tmp 12), none, false⟩,
   ⟨some 6, .alloc 39, none, false⟩,
   ⟨some 5, .assign (.tmp 11), none, false⟩,
   ⟨none, .store 39 (.tmp 6) (.tmp 13), none, false⟩])
 (.seq (.reg [⟨some 14, .move (.tmp 0), none, false⟩,
   ⟨some 15, .move (.tmp 5), none, false⟩,
   ⟨some 16, .slice 63 (.tmp 14) none (some (.tmp 15)) none, none, false⟩,
   ⟨some 17, .makeFunc (.func 177) #[] #[(.tmp 3), (.tmp 6)], none, false⟩,
   ⟨some 18, .call { callee := (.value (.func 72)), args := #[(.tmp 16), (.tmp 17)], argTypes := #[63, 114] }, none, false⟩])
 (.cond (.tmp 18)
 (.seq (.reg [⟨some 4, .assign (.const (.bool false)), none, false⟩])
 (.ret))
 (.skip)))))
 (.reg [⟨some 19, .binOp .add 3 (.tmp 9) (.const (.int .i64 1)) 3, none, false⟩,
   ⟨some 9, .move (.tmp 19), none, false⟩])))))))
 (.seq (.reg [⟨some 4, .assign (.const (.bool true)), none, false⟩])
 (.ret)))
def fr122 : FR := ⟨20, [.tmp 4], cc122⟩
theorem fnis122 : FnIs Tryz.prog 122 fr122 := ⟨Tryz.f122, _, [[0, 3, 7, 8, 9]], [], Tryz.func122, rfl, by kernel_rfl, by kernel_rfl, by kernel_rfl, by kernel_rfl⟩
/-- function 123 -/
def cc123 : CC :=
 .seq (.reg [⟨some 1, .box 39 (.tmp 0), none, false⟩,
   ⟨some 2, .assign (.const (.string { data := #[] })), none, false⟩])
 (.seq (.reg [⟨some 3, .fieldAddr 39 (.tmp 1) 0, none, false⟩,
   ⟨some 4, .load 9 (.tmp 3), none, false⟩,
   ⟨some 2, .assign (.tmp 4), none, false⟩])
 (.ret))
def fr123 : FR := ⟨5, [.tmp 2], cc123⟩
theorem fnis123 : FnIs Tryz.prog 123 fr123 := ⟨Tryz.f123, _, [], [], Tryz.func123, rfl, by kernel_rfl, by kernel_rfl, by kernel_rfl, by kernel_rfl⟩
/-- function 124 -/
def cc124 : CC :=
 .seq (.reg [⟨some 3, .box 136 (.tmp 1), none, false⟩,
   ⟨some 4, .assign (.const (.bool false)), none, false⟩])
 (.seq (.reg [⟨some 5, .move (.tmp 0), none, false⟩,
   ⟨some 6, .makeFunc (.func 178) #[] #[(.tmp 3)], none, false⟩,
   ⟨some 7, .call { callee := (.value (.func 175)), args := #[(.tmp 5), (.tmp 6)], argTypes := #[62, 136] }, none, false⟩,
   ⟨some 8, .unOp .not 4 (.tmp 7), none, false⟩,
   ⟨some 4, .assign (.tmp 8), none, false⟩])
 (.ret))
def fr124 : FR := ⟨9, [.tmp 4], cc124⟩
theorem fnis124 : FnIs Tryz.prog 124 fr124 := ⟨Tryz.f124, _, [], [], Tryz.func124, rfl, by kernel_rfl, by kernel_rfl, by kernel_rfl, by kernel_rfl⟩
/-- function 125 -/
def cc125 : CC :=
 .seq (.reg [⟨some 1, .box 72 (.tmp 0), none, false⟩,
   ⟨some 2, .assign (.const (.bool false)), none, false⟩])
 (.seq (.reg [⟨some 3, .fieldAddr 72 (.tmp 1) 0, none, false⟩,
   ⟨some 4, .load 9 (.tmp 3), none, false⟩,
   ⟨some 5, .call { callee := (.value (.func 126)), args := #[(.tmp 4)], argTypes := #[9] }, none, false⟩,
   ⟨some 6, .move (.tmp 5), none, false⟩,
   ⟨some 7, .fieldAddr 72 (.tmp 1) 1, some (6, true), false⟩,
   ⟨some 8, .load 9 (.tmp 7), some (6, true), false⟩,
   ⟨some 9, .call { callee := (.value (.func 22)), args := #[(.tmp 8)], argTypes := #[9] }, some (6, true), false⟩,
   ⟨some 10, .pick (.tmp 6) (.tmp 9) (.const (.bool false)), none, false⟩,
   ⟨some 2, .assign (.tmp 10), none, false⟩])
 (.ret))
def fr125 : FR := ⟨11, [.tmp 2], cc125⟩
theorem fnis125 : FnIs Tryz.prog 125 fr125 := ⟨Tryz.f125, _, [], [], Tryz.func125, rfl, by kernel_rfl, by kernel_rfl, by kernel_rfl, by kernel_rfl⟩
/-- function 126 -/
def cc126 : CC :=
 .seq (.reg [⟨some 2, .assign (.const (.bool false)), none, false⟩])
 (.seq (.reg [⟨some 3, .move (.tmp 0), none, false⟩,
   ⟨some 4, .call { callee := (.value (.func 110)), args := #[(.tmp 3)], argTypes := #[9] }, none, false⟩,
   ⟨some 5, .move (.tmp 4), none, false⟩,
   ⟨some 6, .move (.tmp 0), some (5, true), false⟩,
   ⟨some 7, .call { callee := (.value (.func 54)), args := #[(.tmp 6)], argTypes := #[9] }, some (5, true), false⟩,
   ⟨some 8, .unOp .not 4 (.tmp 7), some (5, true), false⟩,
   ⟨some 9, .pick (.tmp 5) (.tmp 8) (.const (.bool false)), none, false⟩,
   ⟨some 2, .assign (.tmp 9), none, false⟩])
 (.ret))
def fr126 : FR := ⟨10, [.tmp 2], cc126⟩
theorem fnis126 : FnIs Tryz.prog 126 fr126 := ⟨Tryz.f126, _, [], [], Tryz.func126, rfl, by kernel_rfl, by kernel_rfl, by kernel_rfl, by kernel_rfl⟩
/-- function 127 -/
def cc127 : CC :=
 .seq (.reg [⟨some 3, .box 114 (.tmp 1), none, false⟩,
   ⟨some 4, .assign (.const (.bool false)), none, false⟩])
 (.seq (.reg [⟨some 5, .move (.tmp 0), none, false⟩,
   ⟨some 6, .makeFunc (.func 179) #[] #[(.tmp 3)], none, false⟩,
   ⟨some 7, .call { callee := (.value (.func 72)), args := #[(.tmp 5), (.tmp 6)], argTypes := #[63, 114] }, none, false⟩,
   ⟨some 8, .unOp .not 4 (.tmp 7), none, false⟩,
   ⟨some 4, .assign (.tmp 8), none, false⟩])
 (.ret))
def fr127 : FR := ⟨9, [.tmp 4], cc127⟩
theorem fnis127 : FnIs Tryz.prog 127 fr127 := ⟨Tryz.f127, _, [], [], Tryz.func127, rfl, by kernel_rfl, by kernel_rfl, by kernel_rfl, by kernel_rfl⟩
/-- function 128 -/
def cc128 : CC :=
 .seq (.reg [⟨some 1, .box 39 (.tmp 0), none, false⟩,
   ⟨some 2, .assign (.const (.bool false)), none, false⟩])
 (.seq (.seq (.reg [⟨some 5, .fieldAddr 39 (.tmp 1) 0, none, false⟩,
   ⟨some 6, .load 9 (.tmp 5), none, false⟩,
   ⟨some 7, .call { callee := (.value (.func 126)), args := #[(.tmp 6)], argTypes := #[9] }, none, false⟩,
   ⟨some 8, .unOp .not 4 (.tmp 7), none, false⟩,
   ⟨some 9, .move (.tmp 8), none, false⟩,
   ⟨some 10, .fieldAddr 39 (.tmp 1) 1, some (9, false), false⟩,
   ⟨some 11, .load 22 (.tmp 10), some (9, false), false⟩,
   ⟨some 12, .call { callee := (.value (.func 117)), args := #[(.tmp 11), (.func 22)], argTypes := #[22, 31] }, some (9, false), false⟩,
   ⟨some 13, .unOp .not 4 (.tmp 12), some (9, false), false⟩,
   ⟨some 14, .pick (.tmp 9) (.const (.bool true)) (.tmp 13), none, false⟩,
   ⟨some 15, .move (.tmp 14), none, false⟩,
   ⟨some 16, .fieldAddr 39 (.tmp 1) 2, some (15, false), false⟩,
   ⟨some 17, .load 9 (.tmp 16), some (15, false), false⟩,
   ⟨some 18, .binOp .neq 9 (.tmp 17) (.const (.string { data := #[] })) 9, some (15, false), false⟩,
   ⟨some 19, .move (.tmp 18), some (15, false), false⟩,
   ⟨some 20, .fieldAddr 39 (.tmp 1) 2, some (19, true), false⟩,
   ⟨some 21, .load 9 (.tmp 20), some (19, true), false⟩,
   ⟨some 22, .call { callee := (.value (.func 22)), args := #[(.tmp 21)], argTypes := #[9] }, some (19, true), false⟩,
   ⟨some 23, .unOp .not 4 (.tmp 22), some (19, true), false⟩,
   ⟨some 24, .pick (.tmp 19) (.tmp 23) (.const (.bool false)), some (15, false), false⟩,
   ⟨some 25, .pick (.tmp 15) (.const (.bool true)) (.tmp 24), none, false⟩])
 (.cond (.tmp 25)
 (.seq (.reg [⟨some 2, .assign (.const (.bool false)), none, false⟩])
 (.ret))
 (.skip)))
 (.seq (.seq (.reg [⟨some 26, .fieldAddr 39 (.tmp 1) 3, none, false⟩,
   ⟨some 27, .load 4 (.tmp 26), none, false⟩])
 (.cond (.tmp 27)
 (.seq (.reg [⟨some 28, .fieldAddr 39 (.tmp 1) 4, none, false⟩,
   ⟨some 29, .load 3 (.tmp 28), none, false⟩,
   ⟨some 30, .binOp .eql 3 (.tmp 29) (.const (.int .i64 0)) 3, none, false⟩,
   ⟨some 31, .move (.tmp 30), none, false⟩,
   ⟨some 32, .fieldAddr 39 (.tmp 1) 5, some (31, true), false⟩,
   ⟨some 33, .load 36 (.tmp 32), some (31, true), false⟩,
   ⟨some 34, .call { callee := (.builtin .len), args := #[(.tmp 33)], argTypes := #[36] }, some (31, true), false⟩,
   ⟨some 35, .binOp .eql 3 (.tmp 34) (.const (.int .i64 0)) 3, some (31, true), false⟩,
   ⟨some 36, .pick (.tmp 31) (.tmp 35) (.const (.bool false)), none, false⟩,
   ⟨some 37, .move (.tmp 36), none, false⟩,
   ⟨some 38, .fieldAddr 39 (.tmp 1) 6, some (37, true), false⟩,
   ⟨some 39, .load 37 (.tmp 38), some (37, true), false⟩,
   ⟨some 40, .call { callee := (.builtin .len), args := #[(.tmp 39)], argTypes := #[37] }, some (37, true), false⟩,
   ⟨some 41, .binOp .eql 3 (.tmp 40) (.const (.int .i64 0)) 3, some (37, true), false⟩,
   ⟨some 42, .pick (.tmp 37) (.tmp 41) (.const (.bool false)), none, false⟩,
   ⟨some 2, .assign (.tmp 42), none, false⟩])
 (.ret))
 (.skip)))
 (.seq (.reg [⟨some 43, .fieldAddr 39 (.tmp 1) 5, none, false⟩,
   ⟨some 44, .load 36 (.tmp 43), none, false⟩,
   ⟨some 45, .call { callee := (.builtin .len), args := #[(.tmp 44)], argTypes := #[36] }, none, false⟩,
   ⟨some 3, .alloc 3, none, false⟩,
   ⟨none, .store 3 (.tmp 3) (.tmp 45), none, false⟩])
 (.seq (.reg [⟨some 46, .makeFunc (.func 180) #[] #[(.tmp 3)], none, false⟩,
   ⟨some 4, .assign (.tmp 46), none, false⟩])
 (.seq (.reg [⟨some 47, .load 3 (.tmp 3), none, false⟩,
   ⟨some 48, .binOp .gtr 3 (.tmp 47) (.const (.int .i64 0)) 3, none, false⟩,
   ⟨some 49, .move (.tmp 48), none, false⟩,
   ⟨some 50, .fieldAddr 39 (.tmp 1) 4, some (49, true), false⟩,
   ⟨some 51, .load 3 (.tmp 50), some (49, true), false⟩,
   ⟨some 52, .fieldAddr 39 (.tmp 1) 1, some (49, true), false⟩,
   ⟨some 53, .load 22 (.tmp 52), some (49, true), false⟩,
   ⟨some 54, .call { callee := (.builtin .len), args := #[(.tmp 53)], argTypes := #[22] }, some (49, true), false⟩,
   ⟨some 55, .binOp .gtr 3 (.tmp 51) (.tmp 54) 3, some (49, true), false⟩,
   ⟨some 56, .pick (.tmp 49) (.tmp 55) (.const (.bool false)), none, false⟩,
   ⟨some 57, .move (.tmp 56), none, false⟩,
   ⟨some 58, .fieldAddr 39 (.tmp 1) 5, some (57, true), false⟩,
   ⟨some 59, .load 36 (.tmp 58), some (57, true), false⟩,
   ⟨some 60, .call { callee := (.value (.func 181)), args := #[(.tmp 59), (.func 182)], argTypes := #[36, 172] }, some (57, true), false⟩,
   ⟨some 61, .pick (.tmp 57) (.tmp 60) (.const (.bool false)), none, false⟩,
   ⟨some 62, .move (.tmp 61), none, false⟩,
   ⟨some 63, .fieldAddr 39 (.tmp 1) 6, some (62, true), false⟩,
   ⟨some 64, .load 37 (.tmp 63), some (62, true), false⟩,
   ⟨some 65, .move (.tmp 4), some (62, true), false⟩,
   ⟨some 66, .call { callee := (.value (.func 184)), args := #[(.tmp 64), (.tmp 65)], argTypes := #[37, 169] }, some (62, true), false⟩,
   ⟨some 67, .pick (.tmp 62) (.tmp 66) (.const (.bool false)), none, false⟩,
   ⟨some 2, .assign (.tmp 67), none, false⟩])
 (.ret))))))
def fr128 : FR := ⟨68, [.tmp 2], cc128⟩
theorem fnis128 : FnIs Tryz.prog 128 fr128 := ⟨Tryz.f128, _, [], [], Tryz.func128, rfl, by kernel_rfl, by kernel_rfl, by kernel_rfl, by kernel_rfl⟩
/-- function 129 -/
def cc129 : CC :=
 .seq (.reg [⟨some 2, .assign (.const (.slice none 0 0)), none, false⟩])
 (.seq (.seq (.reg [⟨some 3, .move (.tmp 0), none, false⟩,
   ⟨some 4, .binOp .eql 36 (.tmp 3) (.const (.slice none 0 0)) 36, none, false⟩])
 (.cond (.tmp 4)
 (.seq (.reg [⟨some 2, .assign (.const (.slice none 0 0)), none, false⟩])
 (.ret))
 (.skip)))
 (.seq (.reg [⟨some 5, .buildSlice 36 0 #[], none, false⟩,
   ⟨some 6, .move (.tmp 0), none, false⟩,
   ⟨some 7, .call { callee := (.builtin .append), args := #[(.tmp 5), (.tmp 6)], argTypes := #[36, 36] }, none, false⟩,
   ⟨some 2, .assign (.tmp 7), none, false⟩])
 (.ret)))
def fr129 : FR := ⟨8, [.tmp 2], cc129⟩
theorem fnis129 : FnIs Tryz.prog 129 fr129 := ⟨Tryz.f129, _, [], [], Tryz.func129, rfl, by kernel_rfl, by kernel_rfl, by kernel_rfl, by kernel_rfl⟩
/-- function 130 -/
def cc130 : CC :=
 .seq (.reg [⟨some 2, .assign (.const (.slice none 0 0)), none, false⟩])
 (.seq (.seq (.reg [⟨some 3, .move (.tmp 0), none, false⟩,
   ⟨some 4, .binOp .eql 37 (.tmp 3) (.const (.slice none 0 0)) 37, none, false⟩])
 (.cond (.tmp 4)
 (.seq (.reg [⟨some 2, .assign (.const (.slice none 0 0)), none, false⟩])
 (.ret))
 (.skip)))
 (.seq (.reg [⟨some 5, .buildSlice 37 0 #[], none, false⟩,
   ⟨some 6, .move (.tmp 0), none, false⟩,
   ⟨some 7, .call { callee := (.builtin .append), args := #[(.tmp 5), (.tmp 6)], argTypes := #[37, 37] }, none, false⟩,
   ⟨some 2, .assign (.tmp 7), none, false⟩])
 (.ret)))
def fr130 : FR := ⟨8, [.tmp 2], cc130⟩
theorem fnis130 : FnIs Tryz.prog 130 fr130 := ⟨Tryz.f130, _, [], [], Tryz.func130, rfl, by kernel_rfl, by kernel_rfl, by kernel_rfl, by kernel_rfl⟩
/-- function 131 -/
def cc131 : CC :=
 .seq (.reg [⟨some 4, .assign (.const (.int .i64 0)), none, false⟩])
 (.seq (.seq (.reg [⟨some 6, .move (.tmp 0), none, false⟩,
   ⟨some 7, .call { callee := (.builtin .len), args := #[(.tmp 6)], argTypes := #[22] }, none, false⟩,
   ⟨some 8, .move (.const (.int .i64 0)), none, false⟩])
 (.block 0
 (.loop [0, 1, 7, 8]
 (.seq (.reg [⟨some 9, .binOp .lss 3 (.tmp 8) (.tmp 7) 3, none, false⟩])
 (.seq (.cond (.tmp 9)
 (.skip)
 (.exit 0))
 (.seq (.block 1
 (.seq (.reg [⟨some 10, .move (.tmp 8), none, false⟩,
   ⟨some 5, .assign (.tmp 10), none, false⟩])
 (.seq (.reg [⟨some 11, .move (.tmp 1), none, false⟩,
   ⟨some 12, .move (.tmp 0), none, false⟩,
   ⟨some 13, .move (.tmp 5), none, false⟩,
   ⟨some 14, .indexAddr 22 (.tmp 12) (.tmp 13), none, false⟩,
   ⟨some 15, .load 9 (.tmp 14), none, false⟩,
   ⟨some 16, .call { callee := (.value (.tmp 11)), args := #[(.tmp 15)], argTypes := #[9] }, none, false⟩])
 (.cond (.tmp 16)
 (.seq (.reg [⟨some 17, .move (.tmp 5), none, false⟩,
   ⟨some 4, .assign (.tmp 17), none, false⟩])
 (.ret))
 (.skip)))))
 (.reg [⟨some 18, .binOp .add 3 (.tmp 8) (.const (.int .i64 1)) 3, none, false⟩,
   ⟨some 8, .move (.tmp 18), none, false⟩])))))))
 (.seq (.reg [⟨some 4, .assign (.const (.int .i64 (-1))), none, false⟩])
 (.ret)))
def fr131 : FR := ⟨19, [.tmp 4], cc131⟩
theorem fnis131 : FnIs Tryz.prog 131 fr131 := ⟨Tryz.f131, _, [[0, 1, 7, 8]], [], Tryz.func131, rfl, by kernel_rfl, by kernel_rfl, by kernel_rfl, by kernel_rfl⟩
/-- function 132 -/
def cc132 : CC :=
 .seq (.reg [⟨some 4, .assign (.const (.int .i64 0)), none, false⟩])
 (.seq (.seq (.reg [⟨some 6, .move (.tmp 0), none, false⟩,
   ⟨some 7, .call { callee := (.builtin .len), args := #[(.tmp 6)], argTypes := #[42] }, none, false⟩,
   ⟨some 8, .move (.const (.int .i64 0)), none, false⟩])
 (.block 0
 (.loop [0, 1, 7, 8]
 (.seq (.reg [⟨some 9, .binOp .lss 3 (.tmp 8) (.tmp 7) 3, none, false⟩])
 (.seq (.cond (.tmp 9)
 (.skip)
 (.exit 0))
 (.seq (.block 1
 (.seq (.reg [⟨some 10, .move (.tmp 8), none, false⟩,
   ⟨some 5, .assign (.tmp 10), none, false⟩])
 (.seq (.reg [⟨some 11, .move (.tmp 1), none, false⟩,
   ⟨some 12, .move (.tmp 0), none, false⟩,
   ⟨some 13, .move (.tmp 5), none, false⟩,
   ⟨some 14, .indexAddr 42 (.tmp 12) (.tmp 13), none, false⟩,
   ⟨some 15, .load 3 (.tmp 14), none, false⟩,
   ⟨some 16, .binOp .eql 3 (.tmp 11) (.tmp 15) 3, none, false⟩])
 (.cond (.tmp 16)
 (.seq (.reg [⟨some 17, .move (.tmp 5), none, false⟩,
   ⟨some 4, .assign (.tmp 17), none, false⟩])
 (.ret))
 (.skip)))))
 (.reg [⟨some 18, .binOp .add 3 (.tmp 8) (.const (.int .i64 1)) 3, none, false⟩,
   ⟨some 8, .move (.tmp 18), none, false⟩])))))))
 (.seq (.reg [⟨some 4, .assign (.const (.int .i64 (-1))), none, false⟩])
 (.ret)))
def fr132 : FR := ⟨19, [.tmp 4], cc132⟩
theorem fnis132 : FnIs Tryz.prog 132 fr132 := ⟨Tryz.f132, _, [[0, 1, 7, 8]], [], Tryz.func132, rfl, by kernel_rfl, by kernel_rfl, by kernel_rfl, by kernel_rfl⟩
/-- function 133 -/
def cc133 : CC :=
 .seq (.reg [⟨some 4, .assign (.const (.int .i64 0)), none, false⟩])
 (.seq (.seq (.reg [⟨some 6, .move (.tmp 0), none, false⟩,
   ⟨some 7, .call { callee := (.builtin .len), args := #[(.tmp 6)], argTypes := #[62] }, none, false⟩,
   ⟨some 8, .move (.const (.int .i64 0)), none, false⟩])
 (.block 0
 (.loop [0, 1, 7, 8]
 (.seq (.reg [⟨some 9, .binOp .lss 3 (.tmp 8) (.tmp 7) 3, none, false⟩])
 (.seq (.cond (.tmp 9)
 (.skip)
 (.exit 0))
 (.seq (.block 1
 (.seq (.reg [⟨some 10, .move (.tmp 8), none, false⟩,
   ⟨some 5, .assign (.tmp 10), none, false⟩])
 (.seq (.reg [⟨some 11, .move (.tmp 1), none, false⟩,
   ⟨some 12, .move (.tmp 0), none, false⟩,
   ⟨some 13, .move (.tmp 5), none, false⟩,
   ⟨some 14, .indexAddr 62 (.tmp 12) (.tmp 13), none, false⟩,
   ⟨some 15, .load 72 (.tmp 14), none, false⟩,
   ⟨some 16, .call { callee := (.value (.tmp 11)), args := #[(.tmp 15)], argTypes := #[72] }, none, false⟩])
 (.cond (.tmp 16)
 (.seq (.reg [⟨some 17, .move (.tmp 5), none, false⟩,
   ⟨some 4, .assign (.tmp 17), none, false⟩])
 (.ret))
 (.skip)))))
 (.reg [⟨some 18, .binOp .add 3 (.tmp 8) (.const (.int .i64 1)) 3, none, false⟩,
   ⟨some 8, .move (.tmp 18), none, false⟩])))))))
 (.seq (.reg [⟨some 4, .assign (.const (.int .i64 (-1))), none, false⟩])
 (.ret)))
def fr133 : FR := ⟨19, [.tmp 4], cc133⟩
theorem fnis133 : FnIs Tryz.prog 133 fr133 := ⟨Tryz.f133, _, [[0, 1, 7, 8]], [], Tryz.func133, rfl, by kernel_rfl, by kernel_rfl, by kernel_rfl, by kernel_rfl⟩
/-- function 134 -/
def cc134 : CC :=
 .seq (.reg [⟨some 4, .assign (.const (.slice none 0 0)), none, false⟩])
 (.seq (.reg [⟨some 5, .assign (.const (.slice none 0 0)), none, false⟩])
 (.seq (.seq (.reg [⟨some 8, .move (.tmp 0), none, false⟩,
   ⟨some 9, .move (.tmp 1), none, false⟩,
   ⟨some 10, .call { callee := (.value (.func 138)), args := #[(.tmp 8), (.tmp 9)], argTypes := #[25, 9] }, none, false⟩,
   ⟨some 11, .call { callee := (.builtin .len), args := #[(.tmp 10)], argTypes := #[26] }, none, false⟩,
   ⟨some 12, .move (.const (.int .i64 0)), none, false⟩])
 (.block 0
 (.loop [5, 10, 11, 12]
 (.seq (.reg [⟨some 13, .binOp .lss 3 (.tmp 12) (.tmp 11) 3, none, false⟩])
 (.seq (.cond (.tmp 13)
 (.skip)
 (.exit 0))
 (.seq (.block 1
 (.seq (.reg [⟨some 14, .indexAddr 26 (.tmp 10) (.tmp 12), none, false⟩,
   ⟨some 15, .load 65 (.tmp 14), none, false⟩,
   ⟨some 7, .alloc 65, none, false⟩,
   ⟨none, .store 65 (.tmp 7) (.tmp 15), none, false⟩])
 (.reg [⟨some 16, .move (.tmp 5), none, false⟩,
   ⟨some 17, .fieldAddr 65 (.tmp 7) 6, none, false⟩,
   ⟨some 18, .load 62 (.tmp 17), none, false⟩,
   ⟨some 19, .call { callee := (.builtin .append), args := #[(.tmp 16), (.tmp 18)], argTypes := #[62, 62] }, none, false⟩,
   ⟨some 5, .assign (.tmp 19), none, false⟩])))
 (.reg [⟨some 20, .binOp .add 3 (.tmp 12) (.const (.int .i64 1)) 3, none, false⟩,
   ⟨some 12, .move (.tmp 20), none, false⟩])))))))
 (.seq (.reg [⟨some 21, .move (.tmp 5), none, false⟩,
   ⟨some 4, .assign (.tmp 21), none, false⟩])
 (.ret))))
def fr134 : FR := ⟨22, [.tmp 4], cc134⟩
theorem fnis134 : FnIs Tryz.prog 134 fr134 := ⟨Tryz.f134, _, [[5, 10, 11, 12]], [], Tryz.func134, rfl, by kernel_rfl, by kernel_rfl, by kernel_rfl, by kernel_rfl⟩
/-- function 135 -/
def cc135 : CC :=
 .seq (.reg [⟨some 2, .box 72 (.tmp 0), none, false⟩,
   ⟨some 3, .assign (.const (.bool false)), none, false⟩])
 (.seq (.reg [⟨some 4, .fieldAddr 72 (.tmp 2) 0, none, false⟩,
   ⟨some 5, .load 9 (.tmp 4), none, false⟩,
   ⟨some 6, .load 9 (.tmp 1), none, false⟩,
   ⟨some 7, .binOp .eql 9 (.tmp 5) (.tmp 6) 9, none, false⟩,
   ⟨some 3, .assign (.tmp 7), none, false⟩])
 (.ret))
def fr135 : FR := ⟨8, [.tmp 3], cc135⟩
theorem fnis135 : FnIs Tryz.prog 135 fr135 := ⟨Tryz.f135, _, [], [], Tryz.func135, rfl, by kernel_rfl, by kernel_rfl, by kernel_rfl, by kernel_rfl⟩
/-- function 136 -/
def cc136 : CC :=
 .seq (.reg [⟨some 4, .assign (.const (.int .i64 0)), none, false⟩])
 (.seq (.seq (.reg [⟨some 6, .move (.tmp 0), none, false⟩,
   ⟨some 7, .call { callee := (.builtin .len), args := #[(.tmp 6)], argTypes := #[63] }, none, false⟩,
   ⟨some 8, .move (.const (.int .i64 0)), none, false⟩])
 (.block 0
 (.loop [0, 1, 7, 8]
 (.seq (.reg [⟨some 9, .binOp .lss 3 (.tmp 8) (.tmp 7) 3, none, false⟩])
 (.seq (.cond (.tmp 9)
 (.skip)
 (.exit 0))
 (.seq (.block 1
 (.seq (.reg [⟨some 10, .move (.tmp 8), none, false⟩,
   ⟨some 5, .assign (.tmp 10), none, false⟩])
 (.seq (.reg [⟨some 11, .move (.tmp 1), none, false⟩,
   ⟨some 12, .move (.tmp 0), none, false⟩,
   ⟨some 13, .move (.tmp 5), none, false⟩,
   ⟨some 14, .indexAddr 63 (.tmp 12) (.tmp 13), none, false⟩,
   ⟨some 15, .load 39 (.tmp 14), none, false⟩,
   ⟨some 16, .call { callee := (.value (.tmp 11)), args := #[(.tmp 15)], argTypes := #[39] }, none, false⟩])
 (.cond (.tmp 16)
 (.seq (.reg [⟨some 17, .move (.tmp 5), none, false⟩,
   ⟨some 4, .assign (.tmp 17), none, false⟩])
 (.ret))
 (.skip)))))
 (.reg [⟨some 18, .binOp .add 3 (.tmp 8) (.const (.int .i64 1)) 3, none, false⟩,
   ⟨some 8, .move (.tmp 18), none, false⟩])))))))
 (.seq (.reg [⟨some 4, .assign (.const (.int .i64 (-1))), none, false⟩])
 (.ret)))
def fr136 : FR := ⟨19, [.tmp 4], cc136⟩
theorem fnis136 : FnIs Tryz.prog 136 fr136 := ⟨Tryz.f136, _, [[0, 1, 7, 8]], [], Tryz.func136, rfl, by kernel_rfl, by kernel_rfl, by kernel_rfl, by kernel_rfl⟩
/-- function 137 -/
def cc137 : CC :=
 .seq (.reg [⟨some 4, .assign (.const (.string { data := #[] })), none, false⟩])
 (.seq (.seq (.reg [⟨some 11, .move (.tmp 0), none, false⟩,
   ⟨some 12, .call { callee := (.builtin .len), args := #[(.tmp 11)], argTypes := #[22] }, none, false⟩])
 (.block 0
 (.seq (.reg [⟨some 14, .binOp .eql 3 (.tmp 12) (.const (.int .i64 0)) 3, none, false⟩,
   ⟨some 13, .assign (.tmp 14), none, false⟩])
 (.cond (.tmp 13)
 (.seq (.reg [⟨some 4, .assign (.const (.string { data := #[] })), none, false⟩])
 (.ret))
 (.seq (.reg [⟨some 16, .binOp .eql 3 (.tmp 12) (.const (.int .i64 1)) 3, none, false⟩,
   ⟨some 15, .assign (.tmp 16), none, false⟩])
 (.cond (.tmp 15)
 (.seq (.reg [⟨some 17, .move (.tmp 0), none, false⟩,
   ⟨some 18, .indexAddr 22 (.tmp 17) (.const (.int .i64 0)), none, false⟩,
   ⟨some 19, .load 9 (.tmp 18), none, false⟩,
   ⟨some 4, .assign (.tmp 19), none, false⟩])
 (.ret))
 (.skip)))))))
 (.seq (.reg [⟨some 5, .assign (.const (.int .i64 0)), none, false⟩])
 (.seq (.seq (.reg [⟨some 20, .move (.tmp 1), none, false⟩,
   ⟨some 21, .call { callee := (.builtin .len), args := #[(.tmp 20)], argTypes := #[9] }, none, false⟩,
   ⟨some 22, .binOp .gtr 3 (.tmp 21) (.const (.int .i64 0)) 3, none, false⟩])
 (.cond (.tmp 22)
 (.seq (.seq (.reg [⟨some 23, .move (.tmp 1), none, false⟩,
   ⟨some 24, .call { callee := (.builtin .len), args := #[(.tmp 23)], argTypes := #[9] }, none, false⟩,
   ⟨some 25, .move (.tmp 0), none, false⟩,
   ⟨some 26, .call { callee := (.builtin .len), args := #[(.tmp 25)], argTypes := #[22] }, none, false⟩,
   ⟨some 27, .binOp .sub 3 (.tmp 26) (.const (.int .i64 1)) 3, none, false⟩,
   ⟨some 28, .binOp .quo 3 (.const (.int .i64 9223372036854775807)) (.tmp 27) 3, none, false⟩,
   ⟨some 29, .binOp .geq 3 (.tmp 24) (.tmp 28) 3, none, false⟩])
 (.cond (.tmp 29)
 (.reg [⟨some 30, .makeInterface 9 (.const (.string { data := #[115, 116, 114, 105, 110, 103, 115, 58, 32, 74, 111, 105, 110, 32, 111, 117, 116, 112, 117, 116, 32, 108, 101, 110, 103, 116, 104, 32, 111, 118, 101, 114, 102, 108, 111, 119] })), none, false⟩,
   ⟨none, .panic (.tmp 30), none, false⟩])
 (.skip)))
 (.reg [⟨some 31, .move (.tmp 5), none, false⟩,
   ⟨some 32, .move (.tmp 1), none, false⟩,
   ⟨some 33, .call { callee := (.builtin .len), args := #[(.tmp 32)], argTypes := #[9] }, none, false⟩,
   ⟨some 34, .move (.tmp 0), none, false⟩,
   ⟨some 35, .call { callee := (.builtin .len), args := #[(.tmp 34)], argTypes := #[22] }, none, false⟩,
   ⟨some 36, .binOp .sub 3 (.tmp 35) (.const (.int .i64 1)) 3, none, false⟩,
   ⟨some 37, .binOp .mul 3 (.tmp 33) (.tmp 36) 3, none, false⟩,
   ⟨some 38, .binOp .add 3 (.tmp 31) (.tmp 37) 3, none, false⟩,
   ⟨some 5, .assign (.tmp 38), none, false⟩]))
 (.skip)))
 (.seq (.seq (.reg [⟨some 39, .move (.tmp 0), none, false⟩,
   ⟨some 40, .call { callee := (.builtin .len), args := #[(.tmp 39)], argTypes := #[22] }, none, false⟩,
   ⟨some 41, .move (.const (.int .i64 0)), none, false⟩])
 (.block 1
 (.loop [0, 1, 5, 39, 40, 41]
 (.seq (.reg [⟨some 42, .binOp .lss 3 (.tmp 41) (.tmp 40) 3, none, false⟩])
 (.seq (.cond (.tmp 42)
 (.skip)
 (.exit 1))
 (.seq (.block 2
 (.seq (.reg [⟨some 43, .indexAddr 22 (.tmp 39) (.tmp 41), none, false⟩,
   ⟨some 44, .load 9 (.tmp 43), none, false⟩,
   ⟨some 7, .assign (.tmp 44), none, false⟩])
 (.seq (.seq (.reg [⟨some 45, .move (.tmp 7), none, false⟩,
   ⟨some 46, .call { callee := (.builtin .len), args := #[(.tmp 45)], argTypes := #[9] }, none, false⟩,
   ⟨some 47, .move (.tmp 5), none, false⟩,
   ⟨some 48, .binOp .sub 3 (.const (.int .i64 9223372036854775807)) (.tmp 47) 3, none, false⟩,
   ⟨some 49, .binOp .gtr 3 (.tmp 46) (.tmp 48) 3, none, false⟩])
 (.cond (.tmp 49)
 (.reg [⟨some 50, .makeInterface 9 (.const (.string { data := #[115, 116, 114, 105, 110, 103, 115, 58, 32, 74, 111, 105, 110, 32, 111, 117, 116, 112, 117, 116, 32, 108, 101, 110, 103, 116, 104, 32, 111, 118, 101, 114, 102, 108, 111, 119] })), none, false⟩,
   ⟨none, .panic (.tmp 50), none, false⟩])
 (.skip)))
 (.reg [⟨some 51, .move (.tmp 5), none, false⟩,
   ⟨some 52, .move (.tmp 7), none, false⟩,
   ⟨some 53, .call { callee := (.builtin .len), args := #[(.tmp 52)], argTypes := #[9] }, none, false⟩,
   ⟨some 54, .binOp .add 3 (.tmp 51) (.tmp 53) 3, none, false⟩,
   ⟨some 5, .assign (.tmp 54), none, false⟩]))))
 (.reg [⟨some 55, .binOp .add 3 (.tmp 41) (.const (.int .i64 1)) 3, none, false⟩,
   ⟨some 41, .move (.tmp 55), none, false⟩])))))))
 (.seq (.reg [⟨some 8, .alloc 177, none, false⟩])
 (.seq (.reg [⟨some 56, .move (.tmp 5), none, false⟩,
   ⟨some 57, .call { callee := (.value (.func 185)), args := #[(.tmp 8), (.tmp 56)], argTypes := #[177, 3] }, none, false⟩])
 (.seq (.reg [⟨some 58, .move (.tmp 0), none, false⟩,
   ⟨some 59, .indexAddr 22 (.tmp 58) (.const (.int .i64 0)), none, false⟩,
   ⟨some 60, .load 9 (.tmp 59), none, false⟩,
   ⟨some 61, .call { callee := (.value (.func 186)), args := #[(.tmp 8), (.tmp 60)], argTypes := #[177, 9] }, none, false⟩])
 (.seq (.seq (.reg [⟨some 62, .move (.tmp 0), none, false⟩,
   ⟨some 63, .slice 22 (.tmp 62) (some (.const (.int .i64 1))) none none, none, false⟩,
   ⟨some 64, .call { callee := (.builtin .len), args := #[(.tmp 63)], argTypes := #[22] }, none, false⟩,
   ⟨some 65, .move (.const (.int .i64 0)), none, false⟩])
 (.block 3
 (.loop [1, 8, 63, 64, 65]
 (.seq (.reg [⟨some 66, .binOp .lss 3 (.tmp 65) (.tmp 64) 3, none, false⟩])
 (.seq (.cond (.tmp 66)
 (.skip)
 (.exit 3))
 (.seq (.block 4
 (.seq (.reg [⟨some 67, .indexAddr 22 (.tmp 63) (.tmp 65), none, false⟩,
   ⟨some 68, .load 9 (.tmp 67), none, false⟩,
   ⟨some 10, .assign (.tmp 68), none, false⟩])
 (.seq (.reg [⟨some 69, .move (.tmp 1), none, false⟩,
   ⟨some 70, .call { callee := (.value (.func 186)), args := #[(.tmp 8), (.tmp 69)], argTypes := #[177, 9] }, none, false⟩])
 (.reg [⟨some 71, .move (.tmp 10), none, false⟩,
   ⟨some 72, .call { callee := (.value (.func 186)), args := #[(.tmp 8), (.tmp 71)], argTypes := #[177, 9] }, none, false⟩]))))
 (.reg [⟨some 73, .binOp .add 3 (.tmp 65) (.const (.int .i64 1)) 3, none, false⟩,
   ⟨some 65, .move (.tmp 73), none, false⟩])))))))
 (.seq (.reg [⟨some 74, .call { callee := (.value (.func 187)), args := #[(.tmp 8)], argTypes := #[177] }, none, false⟩,
   ⟨some 4, .assign (.tmp 74), none, false⟩])
 (.ret))))))))))
def fr137 : FR := ⟨75, [.tmp 4], cc137⟩
theorem fnis137 : FnIs Tryz.prog 137 fr137 := ⟨Tryz.f137, _, [[0, 1, 5, 39, 40, 41], [1, 8, 63, 64, 65]], [], Tryz.func137, rfl, by kernel_rfl, by kernel_rfl, by kernel_rfl, by kernel_rfl⟩
/-- function 138 -/
def cc138 : CC :=
 .seq (.reg [⟨some 4, .assign (.const (.slice none 0 0)), none, false⟩])
 (.seq (.reg [⟨some 5, .assign (.const (.slice none 0 0)), none, false⟩])
 (.seq (.seq (.reg [⟨some 7, .move (.tmp 1), none, false⟩,
   ⟨some 6, .assign (.tmp 7), none, false⟩])
 (.block 0
 (.loop [0, 5, 6]
 (.seq (.seq (.reg [⟨some 8, .move (.tmp 0), none, false⟩,
   ⟨some 9, .move (.tmp 6), none, false⟩,
   ⟨some 10, .call { callee := (.value (.func 24)), args := #[(.tmp 8), (.tmp 9)], argTypes := #[25, 9] }, none, false⟩])
 (.cond (.tmp 10)
 (.skip)
 (.exit 0)))
 (.seq (.block 1
 (.reg [⟨some 15, .move (.tmp 5), none, false⟩,
   ⟨some 16, .move (.tmp 0), none, false⟩,
   ⟨some 17, .move (.tmp 6), none, false⟩,
   ⟨some 18, .call { callee := (.value (.func 56)), args := #[(.tmp 16), (.tmp 17)], argTypes := #[25, 9] }, none, false⟩,
   ⟨some 19, .buildSlice 26 1 #[(0, (.tmp 18))], none, false⟩,
   ⟨some 20, .call { callee := (.builtin .append), args := #[(.tmp 15), (.tmp 19)], argTypes := #[26, 26] }, none, false⟩,
   ⟨some 5, .assign (.tmp 20), none, false⟩]))
 (.reg [⟨some 11, .move (.tmp 0), none, false⟩,
   ⟨some 12, .move (.tmp 6), none, false⟩,
   ⟨some 13, .call { callee := (.value (.func 56)), args := #[(.tmp 11), (.tmp 12)], argTypes := #[25, 9] }, none, false⟩,
   ⟨some 14, .field 65 (.tmp 13) 1, none, false⟩,
   ⟨some 6, .assign (.tmp 14), none, false⟩]))))))
 (.seq (.reg [⟨some 21, .move (.tmp 5), none, false⟩,
   ⟨some 22, .call { callee := (.value (.func 139)), args := #[(.tmp 21)], argTypes := #[26] }, none, false⟩])
 (.seq (.reg [⟨some 23, .move (.tmp 5), none, false⟩,
   ⟨some 4, .assign (.tmp 23), none, false⟩])
 (.ret)))))
def fr138 : FR := ⟨24, [.tmp 4], cc138⟩
theorem fnis138 : FnIs Tryz.prog 138 fr138 := ⟨Tryz.f138, _, [[0, 5, 6]], [], Tryz.func138, rfl, by kernel_rfl, by kernel_rfl, by kernel_rfl, by kernel_rfl⟩
/-- function 139 -/
def cc139 : CC :=
 .seq (.reg [⟨some 4, .move (.tmp 0), none, false⟩,
   ⟨some 5, .call { callee := (.builtin .len), args := #[(.tmp 4)], argTypes := #[26] }, none, false⟩,
   ⟨some 6, .binOp .sub 3 (.tmp 5) (.const (.int .i64 1)) 3, none, false⟩,
   ⟨some 2, .assign (.const (.int .i64 0)), none, false⟩,
   ⟨some 3, .assign (.tmp 6), none, false⟩])
 (.block 0
 (.loop [0, 2, 3]
 (.seq (.seq (.reg [⟨some 7, .move (.tmp 2), none, false⟩,
   ⟨some 8, .move (.tmp 3), none, false⟩,
   ⟨some 9, .binOp .lss 3 (.tmp 7) (.tmp 8) 3, none, false⟩])
 (.cond (.tmp 9)
 (.skip)
 (.exit 0)))
 (.seq (.block 1
 (.reg [⟨some 14, .move (.tmp 0), none, false⟩,
   ⟨some 15, .move (.tmp 2), none, false⟩,
   ⟨some 16, .move (.tmp 0), none, false⟩,
   ⟨some 17, .move (.tmp 3), none, false⟩,
   ⟨some 18, .move (.tmp 0), none, false⟩,
   ⟨some 19, .move (.tmp 3), none, false⟩,
   ⟨some 20, .indexAddr 26 (.tmp 18) (.tmp 19), none, false⟩,
   ⟨some 21, .load 65 (.tmp 20), none, false⟩,
   ⟨some 22, .move (.tmp 0), none, false⟩,
   ⟨some 23, .move (.tmp 2), none, false⟩,
   ⟨some 24, .indexAddr 26 (.tmp 22) (.tmp 23), none, false⟩,
   ⟨some 25, .load 65 (.tmp 24), none, false⟩,
   ⟨some 26, .indexAddr 26 (.tmp 14) (.tmp 15), none, false⟩,
   ⟨none, .store 65 (.tmp 26) (.tmp 21), none, false⟩,
   ⟨some 27, .indexAddr 26 (.tmp 16) (.tmp 17), none, false⟩,
   ⟨none, .store 65 (.tmp 27) (.tmp 25), none, false⟩]))
 (.reg [⟨some 10, .move (.tmp 2), none, false⟩,
   ⟨some 11, .binOp .add 3 (.tmp 10) (.const (.int .i64 1)) 3, none, false⟩,
   ⟨some 12, .move (.tmp 3), none, false⟩,
   ⟨some 13, .binOp .sub 3 (.tmp 12) (.const (.int .i64 1)) 3, none, false⟩,
   ⟨some 2, .assign (.tmp 11), none, false⟩,
   ⟨some 3, .assign (.tmp 13), none, false⟩])))))
def fr139 : FR := ⟨28, [], cc139⟩
theorem fnis139 : FnIs Tryz.prog 139 fr139 := ⟨Tryz.f139, _, [[0, 2, 3]], [], Tryz.func139, rfl, by kernel_rfl, by kernel_rfl, by kernel_rfl, by kernel_rfl⟩
/-- function 140 -/
def cc140 : CC :=
 .seq (.reg [⟨some 2, .box 65 (.tmp 0), none, false⟩,
   ⟨some 3, .box 9 (.tmp 1), none, false⟩,
   ⟨some 4, .alloc 39, none, false⟩,
   ⟨some 5, .assign (.const (.bool false)), none, false⟩])
 (.seq (.reg [⟨some 7, .fieldAddr 65 (.tmp 2) 7, none, false⟩,
   ⟨some 8, .load 63 (.tmp 7), none, false⟩,
   ⟨some 9, .makeFunc (.func 188) #[] #[(.tmp 3)], none, false⟩,
   ⟨some 10, .call { callee := (.value (.func 136)), args := #[(.tmp 8), (.tmp 9)], argTypes := #[63, 114] }, none, false⟩,
   ⟨some 6, .assign (.tmp 10), none, false⟩])
 (.seq (.seq (.reg [⟨some 11, .move (.tmp 6), none, false⟩,
   ⟨some 12, .binOp .lss 3 (.tmp 11) (.const (.int .i64 0)) 3, none, false⟩])
 (.cond (.tmp 12)
 (.seq (.reg [⟨some 13, .build 39 #[], none, false⟩,
   ⟨none, .store 39 (.tmp 4) (.tmp 13), none, false⟩,
   ⟨some 5, .assign (.const (.bool false)), none, false⟩])
 (.ret))
 (.skip)))
 (.seq (.reg [⟨some 14, .fieldAddr 65 (.tmp 2) 7, none, false⟩,
   ⟨some 15, .load 63 (.tmp 14), none, false⟩,
   ⟨some 16, .move (.tmp 6), none, false⟩,
   ⟨some 17, .indexAddr 63 (.tmp 15) (.tmp 16), none, false⟩,
   ⟨some 18, .load 39 (.tmp 17), none, false⟩,
   ⟨some 19, .call { callee := (.value (.func 61)), args := #[(.tmp 18)], argTypes := #[39] }, none, false⟩,
   ⟨none, .store 39 (.tmp 4) (.tmp 19), none, false⟩,
   ⟨some 5, .assign (.const (.bool true)), none, false⟩])
 (.ret))))
def fr140 : FR := ⟨20, [.cell 4 39, .tmp 5], cc140⟩
theorem fnis140 : FnIs Tryz.prog 140 fr140 := ⟨Tryz.f140, _, [], [], Tryz.func140, rfl, by kernel_rfl, by kernel_rfl, by kernel_rfl, by kernel_rfl⟩
/-- function 141 -/
def cc141 : CC :=
 .seq (.reg [⟨some 4, .box 65 (.tmp 1), none, false⟩,
   ⟨some 6, .assign (.const (.string { data := #[] })), none, false⟩,
   ⟨some 7, .alloc 39, none, false⟩,
   ⟨some 8, .assign (.const (.bool false)), none, false⟩])
 (.seq (.seq (.reg [⟨some 16, .fieldAddr 65 (.tmp 4) 2, none, false⟩,
   ⟨some 17, .load 22 (.tmp 16), none, false⟩,
   ⟨some 18, .call { callee := (.builtin .len), args := #[(.tmp 17)], argTypes := #[22] }, none, false⟩,
   ⟨some 19, .move (.const (.int .i64 0)), none, false⟩])
 (.block 0
 (.loop [0, 2, 7, 17, 18, 19]
 (.seq (.reg [⟨some 20, .binOp .lss 3 (.tmp 19) (.tmp 18) 3, none, false⟩])
 (.seq (.cond (.tmp 20)
 (.skip)
 (.exit 0))
 (.seq (.block 1
 (.seq (.reg [⟨some 21, .indexAddr 22 (.tmp 17) (.tmp 19), none, false⟩,
   ⟨some 22, .load 9 (.tmp 21), none, false⟩,
   ⟨some 10, .assign (.tmp 22), none, false⟩])
 (.seq (.seq (.reg [⟨some 24, .move (.tmp 0), none, false⟩,
   ⟨some 25, .move (.tmp 10), none, false⟩,
   ⟨some 26, .call { callee := (.value (.func 56)), args := #[(.tmp 24), (.tmp 25)], argTypes := #[25, 9] }, none, false⟩,
   ⟨some 27, .move (.tmp 2), none, false⟩,
   ⟨some 28, .call { callee := (.value (.func 140)), args := #[(.tmp 26), (.tmp 27)], argTypes := #[65, 9] }, none, false⟩,
   ⟨some 23, .move (.tmp 28), none, false⟩,
   ⟨some 29, .extract (.tmp 23) 0, none, false⟩,
   ⟨some 30, .extract (.tmp 23) 1, none, false⟩,
   ⟨some 11, .alloc 39, none, false⟩,
   ⟨none, .store 39 (.tmp 11) (.tmp 29), none, false⟩,
   ⟨some 12, .assign (.tmp 30), none, false⟩])
 (.seq (.reg [⟨some 31, .move (.tmp 12), none, false⟩])
 (.cond (.tmp 31)
 (.seq (.reg [⟨some 32, .move (.tmp 10), none, false⟩,
   ⟨some 33, .load 39 (.tmp 11), none, false⟩,
   ⟨some 6, .assign (.tmp 32), none, false⟩,
   ⟨none, .store 39 (.tmp 7) (.tmp 33), none, false⟩,
   ⟨some 8, .assign (.const (.bool true)), none, false⟩])
 (.ret))
 (.skip))))
 (.seq (.reg [⟨some 35, .move (.tmp 0), none, false⟩,
   ⟨some 36, .move (.tmp 0), none, false⟩,
   ⟨some 37, .move (.tmp 10), none, false⟩,
   ⟨some 38, .call { callee := (.value (.func 56)), args := #[(.tmp 36), (.tmp 37)], argTypes := #[25, 9] }, none, false⟩,
   ⟨some 39, .move (.tmp 2), none, false⟩,
   ⟨some 40, .call { callee := (.value (.func 141)), args := #[(.tmp 35), (.tmp 38), (.tmp 39)], argTypes := #[25, 65, 9] }, none, false⟩,
   ⟨some 34, .move (.tmp 40), none, false⟩,
   ⟨some 41, .extract (.tmp 34) 0, none, false⟩,
   ⟨some 42, .extract (.tmp 34) 1, none, false⟩,
   ⟨some 43, .extract (.tmp 34) 2, none, false⟩,
   ⟨some 14, .alloc 39, none, false⟩,
   ⟨some 13, .assign (.tmp 41), none, false⟩,
   ⟨none, .store 39 (.tmp 14) (.tmp 42), none, false⟩,
   ⟨some 15, .assign (.tmp 43), none, false⟩])
 (.seq (.reg [⟨some 44, .move (.tmp 15), none, false⟩])
 (.cond (.tmp 44)
 (.seq (.reg [⟨some 45, .move (.tmp 13), none, false⟩,
   ⟨some 46, .load 39 (.tmp 14), none, false⟩,
   ⟨some 6, .assign (.tmp 45), none, false⟩,
   ⟨none, .store 39 (.tmp 7) (.tmp 46), none, false⟩,
   ⟨some 8, .assign (.const (.bool true)), none, false⟩])
 (.ret))
 (.skip)))))))
 (.reg [⟨some 47, .binOp .add 3 (.tmp 19) (.const (.int .i64 1)) 3, none, false⟩,
   ⟨some 19, .move (.tmp 47), none, false⟩])))))))
 (.seq (.reg [⟨some 48, .build 39 #[], none, false⟩,
   ⟨some 6, .assign (.const (.string { data := #[] })), none, false⟩,
   ⟨none, .store 39 (.tmp 7) (.tmp 48), none, false⟩,
   ⟨some 8, .assign (.const (.bool false)), none, false⟩])
 (.ret)))
def fr141 : FR := ⟨49, [.tmp 6, .cell 7 39, .tmp 8], cc141⟩
theorem fnis141 : FnIs Tryz.prog 141 fr141 := ⟨Tryz.f141, _, [[0, 2, 7, 17, 18, 19]], [], Tryz.func141, rfl, by kernel_rfl, by kernel_rfl, by kernel_rfl, by kernel_rfl⟩
/-- function 142 -/
def cc142 : CC :=
 .seq (.reg [⟨some 2, .assign (.const (.bool false)), none, false⟩])
 (.seq (.reg [⟨some 3, .move (.tmp 0), none, false⟩,
   ⟨some 4, .call { callee := (.value (.func 189)), args := #[(.tmp 3)], argTypes := #[9] }, none, false⟩,
   ⟨some 5, .move (.tmp 4), none, false⟩,
   ⟨some 6, .move (.tmp 0), some (5, true), false⟩,
   ⟨some 7, .index 9 (.tmp 6) (.const (.int .i64 0)), some (5, true), false⟩,
   ⟨some 8, .binOp .leq 5 (.tmp 7) (.const (.int .u8 90)) 5, some (5, true), false⟩,
   ⟨some 9, .pick (.tmp 5) (.tmp 8) (.const (.bool false)), none, false⟩,
   ⟨some 2, .assign (.tmp 9), none, false⟩])
 (.ret))
def fr142 : FR := ⟨10, [.tmp 2], cc142⟩
theorem fnis142 : FnIs Tryz.prog 142 fr142 := ⟨Tryz.f142, _, [], [], Tryz.func142, rfl, by kernel_rfl, by kernel_rfl, by kernel_rfl, by kernel_rfl⟩
/-- function 143 -/
def cc143 : CC :=
 .seq (.reg [⟨some 2, .assign (.const (.bool false)), none, false⟩])
 (.seq (.reg [⟨some 3, .move (.tmp 0), none, false⟩,
   ⟨some 4, .call { callee := (.value (.func 189)), args := #[(.tmp 3)], argTypes := #[9] }, none, false⟩,
   ⟨some 5, .move (.tmp 4), none, false⟩,
   ⟨some 6, .move (.tmp 0), some (5, true), false⟩,
   ⟨some 7, .index 9 (.tmp 6) (.const (.int .i64 0)), some (5, true), false⟩,
   ⟨some 8, .binOp .geq 5 (.tmp 7) (.const (.int .u8 97)) 5, some (5, true), false⟩,
   ⟨some 9, .pick (.tmp 5) (.tmp 8) (.const (.bool false)), none, false⟩,
   ⟨some 2, .assign (.tmp 9), none, false⟩])
 (.ret))
def fr143 : FR := ⟨10, [.tmp 2], cc143⟩
theorem fnis143 : FnIs Tryz.prog 143 fr143 := ⟨Tryz.f143, _, [], [], Tryz.func143, rfl, by kernel_rfl, by kernel_rfl, by kernel_rfl, by kernel_rfl⟩
/-- function 144 -/
def cc144 : CC :=
 .seq (.reg [⟨some 2, .assign (.const (.bool false)), none, false⟩])
 (.seq (.reg [⟨some 5, .move (.tmp 0), none, false⟩,
   ⟨some 6, .call { callee := (.value (.func 190)), args := #[(.tmp 5)], argTypes := #[9] }, none, false⟩,
   ⟨some 3, .assign (.tmp 6), none, false⟩])
 (.seq (.reg [⟨some 7, .move (.tmp 0), none, false⟩,
   ⟨some 8, .move (.tmp 0), none, false⟩,
   ⟨some 9, .call { callee := (.builtin .len), args := #[(.tmp 8)], argTypes := #[9] }, none, false⟩,
   ⟨some 10, .move (.tmp 3), none, false⟩,
   ⟨some 11, .binOp .mul 3 (.const (.int .i64 2)) (.tmp 10) 3, none, false⟩,
   ⟨some 12, .binOp .sub 3 (.tmp 9) (.tmp 11) 3, none, false⟩,
   ⟨some 13, .slice 9 (.tmp 7) none (some (.tmp 12)) none, none, false⟩,
   ⟨some 4, .assign (.tmp 13), none, false⟩])
 (.seq (.reg [⟨some 14, .move (.tmp 3), none, false⟩,
   ⟨some 15, .binOp .leq 3 (.tmp 14) (.const (.int .i64 3)) 3, none, false⟩,
   ⟨some 16, .move (.tmp 15), none, false⟩,
   ⟨some 17, .move (.tmp 4), some (16, true), false⟩,
   ⟨some 18, .call { callee := (.value (.func 191)), args := #[(.tmp 17)], argTypes := #[9] }, some (16, true), false⟩,
   ⟨some 19, .move (.tmp 18), some (16, true), false⟩,
   ⟨some 20, .move (.tmp 4), some (19, false), false⟩,
   ⟨some 21, .call { callee := (.value (.func 142)), args := #[(.tmp 20)], argTypes := #[9] }, some (19, false), false⟩,
   ⟨some 22, .pick (.tmp 19) (.const (.bool true)) (.tmp 21), some (16, true), false⟩,
   ⟨some 23, .pick (.tmp 16) (.tmp 22) (.const (.bool false)), none, false⟩,
   ⟨some 2, .assign (.tmp 23), none, false⟩])
 (.ret))))
def fr144 : FR := ⟨24, [.tmp 2], cc144⟩
theorem fnis144 : FnIs Tryz.prog 144 fr144 := ⟨Tryz.f144, _, [], [], Tryz.func144, rfl, by kernel_rfl, by kernel_rfl, by kernel_rfl, by kernel_rfl⟩
/-- function 145 -/
def cc145 : CC :=
 .seq (.reg [⟨some 1, .box 39 (.tmp 0), none, false⟩,
   ⟨some 2, .assign (.const (.bool false)), none, false⟩])
 (.seq (.reg [⟨some 8, .fieldAddr 39 (.tmp 1) 0, none, false⟩,
   ⟨some 9, .load 9 (.tmp 8), none, false⟩,
   ⟨some 10, .call { callee := (.value (.func 143)), args := #[(.tmp 9)], argTypes := #[9] }, none, false⟩,
   ⟨some 11, .move (.tmp 10), none, false⟩,
   ⟨some 12, .fieldAddr 39 (.tmp 1) 2, some (11, true), false⟩,
   ⟨some 13, .load 9 (.tmp 12), some (11, true), false⟩,
   ⟨some 14, .binOp .eql 9 (.tmp 13) (.const (.string { data := #[] })) 9, some (11, true), false⟩,
   ⟨some 15, .move (.tmp 14), some (11, true), false⟩,
   ⟨some 16, .fieldAddr 39 (.tmp 1) 2, some (15, false), false⟩,
   ⟨some 17, .load 9 (.tmp 16), some (15, false), false⟩,
   ⟨some 18, .call { callee := (.value (.func 144)), args := #[(.tmp 17)], argTypes := #[9] }, some (15, false), false⟩,
   ⟨some 19, .pick (.tmp 15) (.const (.bool true)) (.tmp 18), some (11, true), false⟩,
   ⟨some 20, .pick (.tmp 11) (.tmp 19) (.const (.bool false)), none, false⟩,
   ⟨some 3, .assign (.tmp 20), none, false⟩])
 (.seq (.seq (.reg [⟨some 4, .assign (.const (.int .i64 0)), none, false⟩])
 (.block 0
 (.loop [1, 3, 4]
 (.seq (.seq (.reg [⟨some 21, .move (.tmp 4), none, false⟩,
   ⟨some 22, .fieldAddr 39 (.tmp 1) 1, none, false⟩,
   ⟨some 23, .load 22 (.tmp 22), none, false⟩,
   ⟨some 24, .call { callee := (.builtin .len), args := #[(.tmp 23)], argTypes := #[22] }, none, false⟩,
   ⟨some 25, .binOp .lss 3 (.tmp 21) (.tmp 24) 3, none, false⟩])
 (.cond (.tmp 25)
 (.skip)
 (.exit 0)))
 (.seq (.block 1
 (.reg [⟨some 28, .move (.tmp 3), none, false⟩,
   ⟨some 29, .move (.tmp 28), none, false⟩,
   ⟨some 30, .fieldAddr 39 (.tmp 1) 1, some (29, true), false⟩,
   ⟨some 31, .load 22 (.tmp 30), some (29, true), false⟩,
   ⟨some 32, .move (.tmp 4), some (29, true), false⟩,
   ⟨some 33, .indexAddr 22 (.tmp 31) (.tmp 32), some (29, true), false⟩,
   ⟨some 34, .load 9 (.tmp 33), some (29, true), false⟩,
   ⟨some 35, .call { callee := (.value (.func 144)), args := #[(.tmp 34)], argTypes := #[9] }, some (29, true), false⟩,
   ⟨some 36, .pick (.tmp 29) (.tmp 35) (.const (.bool false)), none, false⟩,
   ⟨some 3, .assign (.tmp 36), none, false⟩]))
 (.reg [⟨some 26, .move (.tmp 4), none, false⟩,
   ⟨some 27, .binOp .add 3 (.tmp 26) (.const (.int .i64 1)) 3, none, false⟩,
   ⟨some 4, .assign (.tmp 27), none, false⟩]))))))
 (.seq (.seq (.reg [⟨some 37, .fieldAddr 39 (.tmp 1) 3, none, false⟩,
   ⟨some 38, .load 4 (.tmp 37), none, false⟩])
 (.cond (.tmp 38)
 (.seq (.reg [⟨some 39, .move (.tmp 3), none, false⟩,
   ⟨some 40, .move (.tmp 39), none, false⟩,
   ⟨some 41, .fieldAddr 39 (.tmp 1) 4, some (40, true), false⟩,
   ⟨some 42, .load 3 (.tmp 41), some (40, true), false⟩,
   ⟨some 43, .binOp .eql 3 (.tmp 42) (.const (.int .i64 0)) 3, some (40, true), false⟩,
   ⟨some 44, .pick (.tmp 40) (.tmp 43) (.const (.bool false)), none, false⟩,
   ⟨some 45, .move (.tmp 44), none, false⟩,
   ⟨some 46, .fieldAddr 39 (.tmp 1) 5, some (45, true), false⟩,
   ⟨some 47, .load 36 (.tmp 46), some (45, true), false⟩,
   ⟨some 48, .call { callee := (.builtin .len), args := #[(.tmp 47)], argTypes := #[36] }, some (45, true), false⟩,
   ⟨some 49, .binOp .eql 3 (.tmp 48) (.const (.int .i64 0)) 3, some (45, true), false⟩,
   ⟨some 50, .pick (.tmp 45) (.tmp 49) (.const (.bool false)), none, false⟩,
   ⟨some 51, .move (.tmp 50), none, false⟩,
   ⟨some 52, .fieldAddr 39 (.tmp 1) 6, some (51, true), false⟩,
   ⟨some 53, .load 37 (.tmp 52), some (51, true), false⟩,
   ⟨some 54, .call { callee := (.builtin .len), args := #[(.tmp 53)], argTypes := #[37] }, some (51, true), false⟩,
   ⟨some 55, .binOp .eql 3 (.tmp 54) (.const (.int .i64 0)) 3, some (51, true), false⟩,
   ⟨some 56, .pick (.tmp 51) (.tmp 55) (.const (.bool false)), none, false⟩,
   ⟨some 2, .assign (.tmp 56), none, false⟩])
 (.ret))
 (.skip)))
 (.seq (.reg [⟨some 57, .fieldAddr 39 (.tmp 1) 5, none, false⟩,
   ⟨some 58, .load 36 (.tmp 57), none, false⟩,
   ⟨some 59, .call { callee := (.builtin .len), args := #[(.tmp 58)], argTypes := #[36] }, none, false⟩,
   ⟨some 5, .assign (.tmp 59), none, false⟩])
 (.seq (.seq (.reg [⟨some 6, .assign (.const (.int .i64 0)), none, false⟩])
 (.block 2
 (.loop [1, 3, 5, 6]
 (.seq (.seq (.reg [⟨some 60, .move (.tmp 6), none, false⟩,
   ⟨some 61, .fieldAddr 39 (.tmp 1) 6, none, false⟩,
   ⟨some 62, .load 37 (.tmp 61), none, false⟩,
   ⟨some 63, .call { callee := (.builtin .len), args := #[(.tmp 62)], argTypes := #[37] }, none, false⟩,
   ⟨some 64, .binOp .lss 3 (.tmp 60) (.tmp 63) 3, none, false⟩])
 (.cond (.tmp 64)
 (.skip)
 (.exit 2)))
 (.seq (.block 3
 (.seq (.reg [⟨some 67, .fieldAddr 39 (.tmp 1) 6, none, false⟩,
   ⟨some 68, .load 37 (.tmp 67), none, false⟩,
   ⟨some 69, .move (.tmp 6), none, false⟩,
   ⟨some 70, .indexAddr 37 (.tmp 68) (.tmp 69), none, false⟩,
   ⟨some 71, .load 140 (.tmp 70), none, false⟩,
   ⟨some 7, .alloc 140, none, false⟩,
   ⟨none, .store 140 (.tmp 7) (.tmp 71), none, false⟩])
 (.reg [⟨some 72, .move (.tmp 3), none, false⟩,
   ⟨some 73, .move (.tmp 72), none, false⟩,
   ⟨some 74, .fieldAddr 140 (.tmp 7) 0, some (73, true), false⟩,
   ⟨some 75, .load 3 (.tmp 74), some (73, true), false⟩,
   ⟨some 76, .binOp .geq 3 (.tmp 75) (.const (.int .i64 0)) 3, some (73, true), false⟩,
   ⟨some 77, .pick (.tmp 73) (.tmp 76) (.const (.bool false)), none, false⟩,
   ⟨some 78, .move (.tmp 77), none, false⟩,
   ⟨some 79, .fieldAddr 140 (.tmp 7) 0, some (78, true), false⟩,
   ⟨some 80, .load 3 (.tmp 79), some (78, true), false⟩,
   ⟨some 81, .fieldAddr 140 (.tmp 7) 1, some (78, true), false⟩,
   ⟨some 82, .load 3 (.tmp 81), some (78, true), false⟩,
   ⟨some 83, .binOp .lss 3 (.tmp 80) (.tmp 82) 3, some (78, true), false⟩,
   ⟨some 84, .pick (.tmp 78) (.tmp 83) (.const (.bool false)), none, false⟩,
   ⟨some 85, .move (.tmp 84), none, false⟩,
   ⟨some 86, .fieldAddr 140 (.tmp 7) 1, some (85, true), false⟩,
   ⟨some 87, .load 3 (.tmp 86), some (85, true), false⟩,
   ⟨some 88, .move (.tmp 5), some (85, true), false⟩,
   ⟨some 89, .binOp .leq 3 (.tmp 87) (.tmp 88) 3, some (85, true), false⟩,
   ⟨some 90, .pick (.tmp 85) (.tmp 89) (.const (.bool false)), none, false⟩,
   ⟨some 91, .move (.tmp 90), none, false⟩,
   ⟨some 92, .fieldAddr 140 (.tmp 7) 2, some (91, true), false⟩,
   ⟨some 93, .load 3 (.tmp 92), some (91, true), false⟩,
   ⟨some 94, .binOp .geq 3 (.tmp 93) (.const (.int .i64 0)) 3, some (91, true), false⟩,
   ⟨some 95, .pick (.tmp 91) (.tmp 94) (.const (.bool false)), none, false⟩,
   ⟨some 96, .move (.tmp 95), none, false⟩,
   ⟨some 97, .fieldAddr 140 (.tmp 7) 2, some (96, true), false⟩,
   ⟨some 98, .load 3 (.tmp 97), some (96, true), false⟩,
   ⟨some 99, .move (.tmp 5), some (96, true), false⟩,
   ⟨some 100, .binOp .lss 3 (.tmp 98) (.tmp 99) 3, some (96, true), false⟩,
   ⟨some 101, .pick (.tmp 96) (.tmp 100) (.const (.bool false)), none, false⟩,
   ⟨some 102, .move (.tmp 101), none, false⟩,
   ⟨some 103, .fieldAddr 140 (.tmp 7) 3, some (102, true), false⟩,
   ⟨some 104, .load 9 (.tmp 103), some (102, true), false⟩,
   ⟨some 105, .call { callee := (.value (.func 142)), args := #[(.tmp 104)], argTypes := #[9] }, some (102, true), false⟩,
   ⟨some 106, .pick (.tmp 102) (.tmp 105) (.const (.bool false)), none, false⟩,
   ⟨some 3, .assign (.tmp 106), none, false⟩])))
 (.reg [⟨some 65, .move (.tmp 6), none, false⟩,
   ⟨some 66, .binOp .add 3 (.tmp 65) (.const (.int .i64 1)) 3, none, false⟩,
   ⟨some 6, .assign (.tmp 66), none, false⟩]))))))
 (.seq (.reg [⟨some 107, .move (.tmp 3), none, false⟩,
   ⟨some 108, .move (.tmp 107), none, false⟩,
   ⟨some 109, .move (.tmp 5), some (108, true), false⟩,
   ⟨some 110, .binOp .gtr 3 (.tmp 109) (.const (.int .i64 0)) 3, some (108, true), false⟩,
   ⟨some 111, .pick (.tmp 108) (.tmp 110) (.const (.bool false)), none, false⟩,
   ⟨some 112, .move (.tmp 111), none, false⟩,
   ⟨some 113, .fieldAddr 39 (.tmp 1) 4, some (112, true), false⟩,
   ⟨some 114, .load 3 (.tmp 113), some (112, true), false⟩,
   ⟨some 115, .fieldAddr 39 (.tmp 1) 1, some (112, true), false⟩,
   ⟨some 116, .load 22 (.tmp 115), some (112, true), false⟩,
   ⟨some 117, .call { callee := (.builtin .len), args := #[(.tmp 116)], argTypes := #[22] }, some (112, true), false⟩,
   ⟨some 118, .binOp .gtr 3 (.tmp 114) (.tmp 117) 3, some (112, true), false⟩,
   ⟨some 119, .pick (.tmp 112) (.tmp 118) (.const (.bool false)), none, false⟩,
   ⟨some 120, .move (.tmp 119), none, false⟩,
   ⟨some 121, .fieldAddr 39 (.tmp 1) 5, some (120, true), false⟩,
   ⟨some 122, .load 36 (.tmp 121), some (120, true), false⟩,
   ⟨some 123, .call { callee := (.value (.func 192)), args := #[(.tmp 122)], argTypes := #[36] }, some (120, true), false⟩,
   ⟨some 124, .binOp .eql 32 (.tmp 123) (.const (.int .i64 0)) 32, some (120, true), false⟩,
   ⟨some 125, .pick (.tmp 120) (.tmp 124) (.const (.bool false)), none, false⟩,
   ⟨some 2, .assign (.tmp 125), none, false⟩])
 (.ret)))))))
def fr145 : FR := ⟨126, [.tmp 2], cc145⟩
theorem fnis145 : FnIs Tryz.prog 145 fr145 := ⟨Tryz.f145, _, [[1, 3, 4], [1, 3, 5, 6]], [], Tryz.func145, rfl, by kernel_rfl, by kernel_rfl, by kernel_rfl, by kernel_rfl⟩
/-- function 146 -/
def cc146 : CC :=
 .seq (.reg [⟨some 4, .assign (.const (.slice none 0 0)), none, false⟩])
 (.seq (.reg [⟨some 6, .move (.tmp 0), none, false⟩,
   ⟨some 7, .move (.tmp 1), none, false⟩,
   ⟨some 8, .call { callee := (.value (.func 41)), args := #[(.tmp 6), (.tmp 7)], argTypes := #[26, 9] }, none, false⟩,
   ⟨some 5, .assign (.tmp 8), none, false⟩])
 (.seq (.seq (.reg [⟨some 9, .move (.tmp 5), none, false⟩,
   ⟨some 10, .binOp .lss 3 (.tmp 9) (.const (.int .i64 0)) 3, none, false⟩])
 (.cond (.tmp 10)
 (.seq (.reg [⟨some 4, .assign (.const (.slice none 0 0)), none, false⟩])
 (.ret))
 (.skip)))
 (.seq (.reg [⟨some 11, .buildSlice 62 0 #[], none, false⟩,
   ⟨some 12, .move (.tmp 0), none, false⟩,
   ⟨some 13, .move (.tmp 0), none, false⟩,
   ⟨some 14, .move (.tmp 5), none, false⟩,
   ⟨some 15, .indexAddr 26 (.tmp 13) (.tmp 14), none, false⟩,
   ⟨some 16, .fieldAddr 65 (.tmp 15) 1, none, false⟩,
   ⟨some 17, .load 9 (.tmp 16), none, false⟩,
   ⟨some 20, .move (.tmp 0), none, false⟩,
   ⟨some 21, .move (.tmp 5), none, false⟩,
   ⟨some 22, .indexAddr 26 (.tmp 20) (.tmp 21), none, false⟩,
   ⟨some 23, .fieldAddr 65 (.tmp 22) 6, none, false⟩,
   ⟨some 24, .load 62 (.tmp 23), none, false⟩,
   ⟨some 18, .call { callee := (.value (.func 146)), args := #[(.tmp 12), (.tmp 17)], argTypes := #[26, 9] }, none, false⟩,
   ⟨some 24, .load 62 (.tmp 23), none, true⟩,
   ⟨some 19, .call { callee := (.builtin .append), args := #[(.tmp 11), (.tmp 18)], argTypes := #[62, 62] }, none, false⟩,
   ⟨some 24, .load 62 (.tmp 23), none, true⟩,
   ⟨some 25, .call { callee := (.builtin .append), args := #[(.tmp 19), (.tmp 24)], argTypes := #[62, 62] }, none, false⟩,
   ⟨some 4, .assign (.tmp 25), none, false⟩])
 (.ret))))
def fr146 : FR := ⟨26, [.tmp 4], cc146⟩
theorem fnis146 : FnIs Tryz.prog 146 fr146 := ⟨Tryz.f146, _, [], [], Tryz.func146, rfl, by kernel_rfl, by kernel_rfl, by kernel_rfl, by kernel_rfl⟩
/-- function 147 -/
def cc147 : CC :=
 .seq (.reg [⟨some 4, .assign (.const (.bool false)), none, false⟩])
 (.seq (.reg [⟨some 5, .move (.tmp 1), none, false⟩,
   ⟨some 6, .binOp .eql 9 (.tmp 5) (.const (.string { data := #[110, 117, 108, 108] })) 9, none, false⟩,
   ⟨some 7, .move (.tmp 6), none, false⟩,
   ⟨some 8, .move (.tmp 1), some (7, false), false⟩,
   ⟨some 9, .call { callee := (.value (.func 144)), args := #[(.tmp 8)], argTypes := #[9] }, some (7, false), false⟩,
   ⟨some 10, .move (.tmp 9), some (7, false), false⟩,
   ⟨some 11, .move (.tmp 1), some (10, true), false⟩,
   ⟨some 12, .call { callee := (.value (.func 193)), args := #[(.tmp 11)], argTypes := #[9] }, some (10, true), false⟩,
   ⟨some 13, .call { callee := (.value (.func 191)), args := #[(.tmp 12)], argTypes := #[9] }, some (10, true), false⟩,
   ⟨some 14, .move (.tmp 13), some (10, true), false⟩,
   ⟨some 15, .move (.tmp 0), some (14, false), false⟩,
   ⟨some 16, .move (.tmp 1), some (14, false), false⟩,
   ⟨some 17, .call { callee := (.value (.func 193)), args := #[(.tmp 16)], argTypes := #[9] }, some (14, false), false⟩,
   ⟨some 18, .call { callee := (.value (.func 41)), args := #[(.tmp 15), (.tmp 17)], argTypes := #[26, 9] }, some (14, false), false⟩,
   ⟨some 19, .binOp .geq 3 (.tmp 18) (.const (.int .i64 0)) 3, some (14, false), false⟩,
   ⟨some 20, .pick (.tmp 14) (.const (.bool true)) (.tmp 19), some (10, true), false⟩,
   ⟨some 21, .pick (.tmp 10) (.tmp 20) (.const (.bool false)), some (7, false), false⟩,
   ⟨some 22, .pick (.tmp 7) (.const (.bool true)) (.tmp 21), none, false⟩,
   ⟨some 4, .assign (.tmp 22), none, false⟩])
 (.ret))
def fr147 : FR := ⟨23, [.tmp 4], cc147⟩
theorem fnis147 : FnIs Tryz.prog 147 fr147 := ⟨Tryz.f147, _, [], [], Tryz.func147, rfl, by kernel_rfl, by kernel_rfl, by kernel_rfl, by kernel_rfl⟩
/-- function 148 -/
def cc148 : CC :=
 .seq (.reg [⟨some 2, .box 65 (.tmp 0), none, false⟩,
   ⟨some 4, .assign (.const (.int .i64 0)), none, false⟩])
 (.seq (.seq (.reg [⟨some 5, .assign (.const (.int .i64 0)), none, false⟩])
 (.block 0
 (.loop [1, 2, 5]
 (.seq (.seq (.reg [⟨some 6, .move (.tmp 5), none, false⟩,
   ⟨some 7, .fieldAddr 65 (.tmp 2) 7, none, false⟩,
   ⟨some 8, .load 63 (.tmp 7), none, false⟩,
   ⟨some 9, .call { callee := (.builtin .len), args := #[(.tmp 8)], argTypes := #[63] }, none, false⟩,
   ⟨some 10, .binOp .lss 3 (.tmp 6) (.tmp 9) 3, none, false⟩])
 (.cond (.tmp 10)
 (.skip)
 (.exit 0)))
 (.seq (.block 1
 (.seq (.reg [⟨some 13, .fieldAddr 65 (.tmp 2) 7, none, false⟩,
   ⟨some 14, .load 63 (.tmp 13), none, false⟩,
   ⟨some 15, .move (.tmp 5), none, false⟩,
   ⟨some 16, .indexAddr 63 (.tmp 14) (.tmp 15), none, false⟩,
   ⟨some 17, .fieldAddr 39 (.tmp 16) 0, none, false⟩,
   ⟨some 18, .load 9 (.tmp 17), none, false⟩,
   ⟨some 19, .move (.tmp 1), none, false⟩,
   ⟨some 20, .binOp .eql 9 (.tmp 18) (.tmp 19) 9, none, false⟩])
 (.cond (.tmp 20)
 (.seq (.reg [⟨some 21, .move (.tmp 5), none, false⟩,
   ⟨some 4, .assign (.tmp 21), none, false⟩])
 (.ret))
 (.skip))))
 (.reg [⟨some 11, .move (.tmp 5), none, false⟩,
   ⟨some 12, .binOp .add 3 (.tmp 11) (.const (.int .i64 1)) 3, none, false⟩,
   ⟨some 5, .assign (.tmp 12), none, false⟩]))))))
 (.seq (.reg [⟨some 4, .assign (.const (.int .i64 (-1))), none, false⟩])
 (.ret)))
def fr148 : FR := ⟨22, [.tmp 4], cc148⟩
theorem fnis148 : FnIs Tryz.prog 148 fr148 := ⟨Tryz.f148, _, [[1, 2, 5]], [], Tryz.func148, rfl, by kernel_rfl, by kernel_rfl, by kernel_rfl, by kernel_rfl⟩
/-- function 149 -/
def cc149 : CC :=
 .seq (.reg [⟨some 4, .box 65 (.tmp 1), none, false⟩,
   ⟨some 6, .assign (.const (.string { data := #[] })), none, false⟩,
   ⟨some 7, .alloc 39, none, false⟩,
   ⟨some 8, .assign (.const (.bool false)), none, false⟩])
 (.seq (.seq (.reg [⟨some 9, .assign (.const (.int .i64 0)), none, false⟩])
 (.block 0
 (.loop [0, 2, 4, 7, 9]
 (.seq (.seq (.reg [⟨some 15, .move (.tmp 9), none, false⟩,
   ⟨some 16, .fieldAddr 65 (.tmp 4) 2, none, false⟩,
   ⟨some 17, .load 22 (.tmp 16), none, false⟩,
   ⟨some 18, .call { callee := (.builtin .len), args := #[(.tmp 17)], argTypes := #[22] }, none, false⟩,
   ⟨some 19, .binOp .lss 3 (.tmp 15) (.tmp 18) 3, none, false⟩])
 (.cond (.tmp 19)
 (.skip)
 (.exit 0)))
 (.seq (.block 1
 (.seq (.reg [⟨some 22, .move (.tmp 0), none, false⟩,
   ⟨some 23, .move (.tmp 0), none, false⟩,
   ⟨some 24, .fieldAddr 65 (.tmp 4) 2, none, false⟩,
   ⟨some 25, .load 22 (.tmp 24), none, false⟩,
   ⟨some 26, .move (.tmp 9), none, false⟩,
   ⟨some 27, .indexAddr 22 (.tmp 25) (.tmp 26), none, false⟩,
   ⟨some 28, .load 9 (.tmp 27), none, false⟩,
   ⟨some 29, .call { callee := (.value (.func 41)), args := #[(.tmp 23), (.tmp 28)], argTypes := #[26, 9] }, none, false⟩,
   ⟨some 30, .indexAddr 26 (.tmp 22) (.tmp 29), none, false⟩,
   ⟨some 31, .load 65 (.tmp 30), none, false⟩,
   ⟨some 10, .alloc 65, none, false⟩,
   ⟨none, .store 65 (.tmp 10) (.tmp 31), none, false⟩])
 (.seq (.seq (.reg [⟨some 32, .load 65 (.tmp 10), none, false⟩,
   ⟨some 33, .move (.tmp 2), none, false⟩,
   ⟨some 34, .call { callee := (.value (.func 148)), args := #[(.tmp 32), (.tmp 33)], argTypes := #[65, 9] }, none, false⟩,
   ⟨some 11, .assign (.tmp 34), none, false⟩])
 (.seq (.reg [⟨some 35, .move (.tmp 11), none, false⟩,
   ⟨some 36, .binOp .geq 3 (.tmp 35) (.const (.int .i64 0)) 3, none, false⟩])
 (.cond (.tmp 36)
 (.seq (.reg [⟨some 37, .fieldAddr 65 (.tmp 10) 0, none, false⟩,
   ⟨some 38, .load 9 (.tmp 37), none, false⟩,
   ⟨some 39, .fieldAddr 65 (.tmp 10) 7, none, false⟩,
   ⟨some 40, .load 63 (.tmp 39), none, false⟩,
   ⟨some 41, .move (.tmp 11), none, false⟩,
   ⟨some 42, .indexAddr 63 (.tmp 40) (.tmp 41), none, false⟩,
   ⟨some 43, .load 39 (.tmp 42), none, false⟩,
   ⟨some 6, .assign (.tmp 38), none, false⟩,
   ⟨none, .store 39 (.tmp 7) (.tmp 43), none, false⟩,
   ⟨some 8, .assign (.const (.bool true)), none, false⟩])
 (.ret))
 (.skip))))
 (.seq (.reg [⟨some 45, .move (.tmp 0), none, false⟩,
   ⟨some 46, .load 65 (.tmp 10), none, false⟩,
   ⟨some 47, .move (.tmp 2), none, false⟩,
   ⟨some 48, .call { callee := (.value (.func 149)), args := #[(.tmp 45), (.tmp 46), (.tmp 47)], argTypes := #[26, 65, 9] }, none, false⟩,
   ⟨some 44, .move (.tmp 48), none, false⟩,
   ⟨some 49, .extract (.tmp 44) 0, none, false⟩,
   ⟨some 50, .extract (.tmp 44) 1, none, false⟩,
   ⟨some 51, .extract (.tmp 44) 2, none, false⟩,
   ⟨some 13, .alloc 39, none, false⟩,
   ⟨some 12, .assign (.tmp 49), none, false⟩,
   ⟨none, .store 39 (.tmp 13) (.tmp 50), none, false⟩,
   ⟨some 14, .assign (.tmp 51), none, false⟩])
 (.seq (.reg [⟨some 52, .move (.tmp 14), none, false⟩])
 (.cond (.tmp 52)
 (.seq (.reg [⟨some 53, .move (.tmp 12), none, false⟩,
   ⟨some 54, .load 39 (.tmp 13), none, false⟩,
   ⟨some 6, .assign (.tmp 53), none, false⟩,
   ⟨none, .store 39 (.tmp 7) (.tmp 54), none, false⟩,
   ⟨some 8, .assign (.const (.bool true)), none, false⟩])
 (.ret))
 (.skip)))))))
 (.reg [⟨some 20, .move (.tmp 9), none, false⟩,
   ⟨some 21, .binOp .add 3 (.tmp 20) (.const (.int .i64 1)) 3, none, false⟩,
   ⟨some 9, .assign (.tmp 21), none, false⟩]))))))
 (.seq (.reg [⟨some 55, .build 39 #[], none, false⟩,
   ⟨some 6, .assign (.const (.string { data := #[] })), none, false⟩,
   ⟨none, .store 39 (.tmp 7) (.tmp 55), none, false⟩,
   ⟨some 8, .assign (.const (.bool false)), none, false⟩])
 (.ret)))
def fr149 : FR := ⟨56, [.tmp 6, .cell 7 39, .tmp 8], cc149⟩
theorem fnis149 : FnIs Tryz.prog 149 fr149 := ⟨Tryz.f149, _, [[0, 2, 4, 7, 9]], [], Tryz.func149, rfl, by kernel_rfl, by kernel_rfl, by kernel_rfl, by kernel_rfl⟩
/-- function 150 -/
def cc150 : CC :=
 .reg [⟨some 3, .move (.tmp 0), none, false⟩,
   ⟨some 4, .load 9 (.tmp 1), none, false⟩,
   ⟨some 5, .buildSlice 22 1 #[(0, (.tmp 4))], none, false⟩,
   ⟨some 6, .call { callee := (.value (.func 151)), args := #[(.tmp 3), (.tmp 5)], argTypes := #[80, 22] }, none, false⟩]
def fr150 : FR := ⟨7, [], cc150⟩
theorem fnis150 : FnIs Tryz.prog 150 fr150 := ⟨Tryz.f150, _, [], [], Tryz.func150, rfl, by kernel_rfl, by kernel_rfl, by kernel_rfl, by kernel_rfl⟩
/-- function 151 -/
def cc151 : CC :=
 .seq (.reg [⟨some 4, .move (.tmp 0), none, false⟩,
   ⟨some 5, .nilCheck (.tmp 4), none, false⟩,
   ⟨some 6, .fieldAddr 83 (.tmp 5) 4, none, false⟩,
   ⟨some 7, .load 32 (.tmp 6), none, false⟩,
   ⟨some 8, .binOp .eql 32 (.tmp 7) (.const (.int .i64 0)) 32, none, false⟩])
 (.cond (.tmp 8)
 (.reg [⟨some 9, .move (.tmp 0), none, false⟩,
   ⟨some 10, .move (.tmp 0), none, false⟩,
   ⟨some 11, .nilCheck (.tmp 10), none, false⟩,
   ⟨some 12, .fieldAddr 83 (.tmp 11) 3, none, false⟩,
   ⟨some 13, .fieldAddr 24 (.tmp 12) 1, none, false⟩,
   ⟨some 14, .load 22 (.tmp 13), none, false⟩,
   ⟨some 15, .move (.tmp 1), none, false⟩,
   ⟨some 16, .call { callee := (.builtin .append), args := #[(.tmp 14), (.tmp 15)], argTypes := #[22, 22] }, none, false⟩,
   ⟨some 17, .nilCheck (.tmp 9), none, false⟩,
   ⟨some 18, .fieldAddr 83 (.tmp 17) 3, none, false⟩,
   ⟨some 19, .fieldAddr 24 (.tmp 18) 1, none, false⟩,
   ⟨none, .store 22 (.tmp 19) (.tmp 16), none, false⟩])
 (.skip))
def fr151 : FR := ⟨20, [], cc151⟩
theorem fnis151 : FnIs Tryz.prog 151 fr151 := ⟨Tryz.f151, _, [], [], Tryz.func151, rfl, by kernel_rfl, by kernel_rfl, by kernel_rfl, by kernel_rfl⟩
/-- function 152 -/
def cc152 : CC :=
 .seq (.reg [⟨some 2, .assign (.const (.int .i64 0)), none, false⟩])
 (.seq (.seq (.reg [⟨some 3, .move (.tmp 0), none, false⟩,
   ⟨some 4, .move (.tmp 0), none, false⟩,
   ⟨some 5, .nilCheck (.tmp 4), none, false⟩,
   ⟨some 6, .fieldAddr 83 (.tmp 5) 2, none, false⟩,
   ⟨some 7, .fieldAddr 53 (.tmp 6) 1, none, false⟩,
   ⟨some 8, .load 2 (.tmp 7), none, false⟩,
   ⟨some 9, .binOp .geq 2 (.tmp 8) (.const (.int .i64 0)) 2, none, false⟩,
   ⟨some 10, .move (.tmp 9), none, false⟩,
   ⟨some 11, .move (.tmp 0), some (10, true), false⟩,
   ⟨some 12, .nilCheck (.tmp 11), some (10, true), false⟩,
   ⟨some 13, .fieldAddr 83 (.tmp 12) 2, some (10, true), false⟩,
   ⟨some 14, .fieldAddr 53 (.tmp 13) 1, some (10, true), false⟩,
   ⟨some 15, .load 2 (.tmp 14), some (10, true), false⟩,
   ⟨some 16, .move (.tmp 0), some (10, true), false⟩,
   ⟨some 17, .nilCheck (.tmp 16), some (10, true), false⟩,
   ⟨some 18, .fieldAddr 83 (.tmp 17) 3, some (10, true), false⟩,
   ⟨some 19, .fieldAddr 24 (.tmp 18) 2, some (10, true), false⟩,
   ⟨some 20, .load 22 (.tmp 19), some (10, true), false⟩,
   ⟨some 21, .call { callee := (.builtin .len), args := #[(.tmp 20)], argTypes := #[22] }, some (10, true), false⟩,
   ⟨some 22, .binOp .lss 2 (.tmp 15) (.tmp 21) 2, some (10, true), false⟩,
   ⟨some 23, .pick (.tmp 10) (.tmp 22) (.const (.bool false)), none, false⟩,
   ⟨some 24, .call { callee := (.value (.func 48)), args := #[(.tmp 3), (.tmp 23), (.const (.int .i64 74))], argTypes := #[80, 4, 32] }, none, false⟩,
   ⟨some 25, .unOp .not 4 (.tmp 24), none, false⟩])
 (.cond (.tmp 25)
 (.seq (.reg [⟨some 2, .assign (.const (.int .i64 (-1))), none, false⟩])
 (.ret))
 (.skip)))
 (.seq (.reg [⟨some 26, .move (.tmp 0), none, false⟩,
   ⟨some 27, .nilCheck (.tmp 26), none, false⟩,
   ⟨some 28, .fieldAddr 83 (.tmp 27) 2, none, false⟩,
   ⟨some 29, .fieldAddr 53 (.tmp 28) 1, none, false⟩,
   ⟨some 30, .load 2 (.tmp 29), none, false⟩,
   ⟨some 2, .assign (.tmp 30), none, false⟩])
 (.ret)))
def fr152 : FR := ⟨31, [.tmp 2], cc152⟩
theorem fnis152 : FnIs Tryz.prog 152 fr152 := ⟨Tryz.f152, _, [], [], Tryz.func152, rfl, by kernel_rfl, by kernel_rfl, by kernel_rfl, by kernel_rfl⟩
/-- function 153 -/
def cc153 : CC :=
 .reg [⟨some 4, .move (.tmp 0), none, false⟩,
   ⟨some 5, .load 9 (.tmp 1), none, false⟩,
   ⟨some 6, .load 22 (.tmp 2), none, false⟩,
   ⟨some 7, .call { callee := (.value (.func 154)), args := #[(.tmp 4), (.tmp 5), (.tmp 6)], argTypes := #[80, 9, 22] }, none, false⟩]
def fr153 : FR := ⟨8, [], cc153⟩
theorem fnis153 : FnIs Tryz.prog 153 fr153 := ⟨Tryz.f153, _, [], [], Tryz.func153, rfl, by kernel_rfl, by kernel_rfl, by kernel_rfl, by kernel_rfl⟩
/-- function 154 -/
def cc154 : CC :=
 .seq (.reg [⟨some 8, .move (.tmp 0), none, false⟩,
   ⟨some 9, .move (.tmp 2), none, false⟩,
   ⟨some 10, .call { callee := (.builtin .len), args := #[(.tmp 9)], argTypes := #[22] }, none, false⟩,
   ⟨some 11, .call { callee := (.value (.func 88)), args := #[(.tmp 8), (.tmp 10)], argTypes := #[80, 3] }, none, false⟩,
   ⟨some 6, .assign (.tmp 11), none, false⟩])
 (.seq (.seq (.reg [⟨some 12, .move (.tmp 6), none, false⟩,
   ⟨some 13, .call { callee := (.builtin .len), args := #[(.tmp 12)], argTypes := #[22] }, none, false⟩,
   ⟨some 14, .binOp .sub 3 (.tmp 13) (.const (.int .i64 1)) 3, none, false⟩,
   ⟨some 7, .assign (.tmp 14), none, false⟩])
 (.block 0
 (.loop [0, 1, 2, 6, 7]
 (.seq (.seq (.reg [⟨some 15, .move (.tmp 7), none, false⟩,
   ⟨some 16, .binOp .geq 3 (.tmp 15) (.const (.int .i64 0)) 3, none, false⟩])
 (.cond (.tmp 16)
 (.skip)
 (.exit 0)))
 (.seq (.block 1
 (.reg [⟨some 19, .move (.tmp 0), none, false⟩,
   ⟨some 20, .move (.tmp 6), none, false⟩,
   ⟨some 21, .move (.tmp 7), none, false⟩,
   ⟨some 22, .indexAddr 22 (.tmp 20) (.tmp 21), none, false⟩,
   ⟨some 23, .load 9 (.tmp 22), none, false⟩,
   ⟨some 24, .move (.tmp 2), none, false⟩,
   ⟨some 25, .move (.tmp 7), none, false⟩,
   ⟨some 26, .indexAddr 22 (.tmp 24) (.tmp 25), none, false⟩,
   ⟨some 27, .load 9 (.tmp 26), none, false⟩,
   ⟨some 28, .call { callee := (.value (.func 160)), args := #[(.tmp 19), (.tmp 23), (.tmp 27)], argTypes := #[80, 9, 9] }, none, false⟩]))
 (.reg [⟨some 17, .move (.tmp 7), none, false⟩,
   ⟨some 18, .binOp .sub 3 (.tmp 17) (.const (.int .i64 1)) 3, none, false⟩,
   ⟨some 7, .assign (.tmp 18), none, false⟩]))))))
 (.seq (.reg [⟨some 29, .move (.tmp 1), none, false⟩,
   ⟨some 30, .binOp .neq 9 (.tmp 29) (.const (.string { data := #[] })) 9, none, false⟩])
 (.cond (.tmp 30)
 (.reg [⟨some 31, .move (.tmp 0), none, false⟩,
   ⟨some 32, .move (.tmp 1), none, false⟩,
   ⟨some 33, .buildSlice 22 1 #[(0, (.tmp 32))], none, false⟩,
   ⟨some 34, .call { callee := (.value (.func 151)), args := #[(.tmp 31), (.tmp 33)], argTypes := #[80, 22] }, none, false⟩])
 (.skip))))
def fr154 : FR := ⟨35, [], cc154⟩
theorem fnis154 : FnIs Tryz.prog 154 fr154 := ⟨Tryz.f154, _, [[0, 1, 2, 6, 7]], [], Tryz.func154, rfl, by kernel_rfl, by kernel_rfl, by kernel_rfl, by kernel_rfl⟩
/-- function 155 -/
def cc155 : CC :=
 .seq (.reg [⟨some 4, .assign (.const (.string { data := #[] })), none, false⟩])
 (.seq (.reg [⟨some 6, .move (.tmp 1), none, false⟩,
   ⟨some 7, .call { callee := (.value (.func 112)), args := #[(.tmp 6)], argTypes := #[9] }, none, false⟩,
   ⟨some 5, .assign (.tmp 7), none, false⟩])
 (.seq (.reg [⟨some 8, .move (.tmp 0), none, false⟩,
   ⟨some 9, .move (.tmp 5), none, false⟩,
   ⟨some 10, .binOp .neq 9 (.tmp 9) (.const (.string { data := #[] })) 9, none, false⟩,
   ⟨some 11, .call { callee := (.value (.func 48)), args := #[(.tmp 8), (.tmp 10), (.const (.int .i64 73))], argTypes := #[80, 4, 32] }, none, false⟩])
 (.seq (.reg [⟨some 12, .move (.tmp 5), none, false⟩,
   ⟨some 4, .assign (.tmp 12), none, false⟩])
 (.ret))))
def fr155 : FR := ⟨13, [.tmp 4], cc155⟩
theorem fnis155 : FnIs Tryz.prog 155 fr155 := ⟨Tryz.f155, _, [], [], Tryz.func155, rfl, by kernel_rfl, by kernel_rfl, by kernel_rfl, by kernel_rfl⟩
/-- function 156 -/
def cc156 : CC :=
 .seq (.reg [⟨some 4, .assign (.const (.bool false)), none, false⟩])
 (.seq (.reg [⟨some 5, .move (.tmp 0), none, false⟩,
   ⟨some 6, .move (.tmp 1), none, false⟩,
   ⟨some 7, .call { callee := (.value (.func 24)), args := #[(.tmp 5), (.tmp 6)], argTypes := #[25, 9] }, none, false⟩,
   ⟨some 8, .move (.tmp 7), none, false⟩,
   ⟨some 9, .move (.tmp 0), some (8, true), false⟩,
   ⟨some 10, .move (.tmp 1), some (8, true), false⟩,
   ⟨some 11, .call { callee := (.value (.func 56)), args := #[(.tmp 9), (.tmp 10)], argTypes := #[25, 9] }, some (8, true), false⟩,
   ⟨some 12, .field 65 (.tmp 11) 4, some (8, true), false⟩,
   ⟨some 13, .unOp .not 4 (.tmp 12), some (8, true), false⟩,
   ⟨some 14, .pick (.tmp 8) (.tmp 13) (.const (.bool false)), none, false⟩,
   ⟨some 4, .assign (.tmp 14), none, false⟩])
 (.ret))
def fr156 : FR := ⟨15, [.tmp 4], cc156⟩
theorem fnis156 : FnIs Tryz.prog 156 fr156 := ⟨Tryz.f156, _, [], [], Tryz.func156, rfl, by kernel_rfl, by kernel_rfl, by kernel_rfl, by kernel_rfl⟩
/-- function 157 -/
def cc157 : CC :=
 .seq (.reg [⟨some 2, .assign (.const (.string { data := #[] })), none, false⟩,
   ⟨some 3, .assign (.const (.string { data := #[] })), none, false⟩])
 (.seq (.reg [⟨some 9, .move (.tmp 0), none, false⟩,
   ⟨some 10, .nilCheck (.tmp 9), none, false⟩,
   ⟨some 11, .fieldAddr 83 (.tmp 10) 2, none, false⟩,
   ⟨some 12, .fieldAddr 53 (.tmp 11) 2, none, false⟩,
   ⟨some 13, .load 9 (.tmp 12), none, false⟩,
   ⟨some 14, .call { callee := (.value (.func 158)), args := #[(.tmp 13)], argTypes := #[9] }, none, false⟩,
   ⟨some 8, .move (.tmp 14), none, false⟩,
   ⟨some 15, .extract (.tmp 8) 0, none, false⟩,
   ⟨some 16, .extract (.tmp 8) 1, none, false⟩,
   ⟨some 17, .extract (.tmp 8) 2, none, false⟩,
   ⟨some 4, .assign (.tmp 15), none, false⟩,
   ⟨some 5, .assign (.tmp 16), none, false⟩,
   ⟨some 6, .assign (.tmp 17), none, false⟩])
 (.seq (.reg [⟨some 18, .move (.tmp 0), none, false⟩,
   ⟨some 19, .nilCheck (.tmp 18), none, false⟩,
   ⟨some 20, .fieldAddr 83 (.tmp 19) 0, none, false⟩,
   ⟨some 21, .load 25 (.tmp 20), none, false⟩,
   ⟨some 22, .move (.tmp 4), none, false⟩,
   ⟨some 23, .move (.tmp 5), none, false⟩,
   ⟨some 24, .call { callee := (.value (.func 68)), args := #[(.tmp 21), (.tmp 22), (.tmp 23)], argTypes := #[25, 9, 9] }, none, false⟩,
   ⟨some 7, .assign (.tmp 24), none, false⟩])
 (.seq (.seq (.reg [⟨some 25, .move (.tmp 0), none, false⟩,
   ⟨some 26, .move (.tmp 6), none, false⟩,
   ⟨some 27, .binOp .eql 32 (.tmp 26) (.const (.int .i64 0)) 32, none, false⟩,
   ⟨some 28, .move (.tmp 27), none, false⟩,
   ⟨some 29, .move (.tmp 7), some (28, true), false⟩,
   ⟨some 30, .binOp .geq 3 (.tmp 29) (.const (.int .i64 0)) 3, some (28, true), false⟩,
   ⟨some 31, .pick (.tmp 28) (.tmp 30) (.const (.bool false)), none, false⟩,
   ⟨some 32, .call { callee := (.value (.func 48)), args := #[(.tmp 25), (.tmp 31), (.const (.int .i64 76))], argTypes := #[80, 4, 32] }, none, false⟩,
   ⟨some 33, .unOp .not 4 (.tmp 32), none, false⟩])
 (.cond (.tmp 33)
 (.seq (.reg [⟨some 2, .assign (.const (.string { data := #[] })), none, false⟩,
   ⟨some 3, .assign (.const (.string { data := #[] })), none, false⟩])
 (.ret))
 (.skip)))
 (.seq (.reg [⟨some 34, .move (.tmp 4), none, false⟩,
   ⟨some 35, .move (.tmp 0), none, false⟩,
   ⟨some 36, .nilCheck (.tmp 35), none, false⟩,
   ⟨some 37, .fieldAddr 83 (.tmp 36) 0, none, false⟩,
   ⟨some 38, .load 25 (.tmp 37), none, false⟩,
   ⟨some 39, .move (.tmp 4), none, false⟩,
   ⟨some 41, .move (.tmp 7), none, false⟩,
   ⟨some 40, .call { callee := (.value (.func 134)), args := #[(.tmp 38), (.tmp 39)], argTypes := #[25, 9] }, none, false⟩,
   ⟨some 42, .indexAddr 62 (.tmp 40) (.tmp 41), none, false⟩,
   ⟨some 43, .fieldAddr 72 (.tmp 42) 1, none, false⟩,
   ⟨some 44, .load 9 (.tmp 43), none, false⟩,
   ⟨some 2, .assign (.tmp 34), none, false⟩,
   ⟨some 3, .assign (.tmp 44), none, false⟩])
 (.ret)))))
def fr157 : FR := ⟨45, [.tmp 2, .tmp 3], cc157⟩
theorem fnis157 : FnIs Tryz.prog 157 fr157 := ⟨Tryz.f157, _, [], [], Tryz.func157, rfl, by kernel_rfl, by kernel_rfl, by kernel_rfl, by kernel_rfl⟩
/-- function 158 -/
def cc158 : CC :=
 .seq (.reg [⟨some 2, .assign (.const (.string { data := #[] })), none, false⟩,
   ⟨some 3, .assign (.const (.string { data := #[] })), none, false⟩,
   ⟨some 4, .assign (.const (.int .i64 0)), none, false⟩])
 (.seq (.reg [⟨some 9, .move (.tmp 0), none, false⟩,
   ⟨some 10, .call { callee := (.value (.func 194)), args := #[(.tmp 9), (.const (.string { data := #[46] }))], argTypes := #[9, 9] }, none, false⟩,
   ⟨some 8, .move (.tmp 10), none, false⟩,
   ⟨some 11, .extract (.tmp 8) 0, none, false⟩,
   ⟨some 12, .extract (.tmp 8) 1, none, false⟩,
   ⟨some 13, .extract (.tmp 8) 2, none, false⟩,
   ⟨some 5, .assign (.tmp 11), none, false⟩,
   ⟨some 6, .assign (.tmp 12), none, false⟩,
   ⟨some 7, .assign (.tmp 13), none, false⟩])
 (.seq (.seq (.reg [⟨some 14, .move (.tmp 7), none, false⟩,
   ⟨some 15, .unOp .not 4 (.tmp 14), none, false⟩,
   ⟨some 16, .move (.tmp 15), none, false⟩,
   ⟨some 17, .move (.tmp 5), some (16, false), false⟩,
   ⟨some 18, .call { callee := (.value (.func 54)), args := #[(.tmp 17)], argTypes := #[9] }, some (16, false), false⟩,
   ⟨some 19, .unOp .not 4 (.tmp 18), some (16, false), false⟩,
   ⟨some 20, .pick (.tmp 16) (.const (.bool true)) (.tmp 19), none, false⟩,
   ⟨some 21, .move (.tmp 20), none, false⟩,
   ⟨some 22, .move (.tmp 6), some (21, false), false⟩,
   ⟨some 23, .call { callee := (.value (.func 110)), args := #[(.tmp 22)], argTypes := #[9] }, some (21, false), false⟩,
   ⟨some 24, .unOp .not 4 (.tmp 23), some (21, false), false⟩,
   ⟨some 25, .pick (.tmp 21) (.const (.bool true)) (.tmp 24), none, false⟩,
   ⟨some 26, .move (.tmp 25), none, false⟩,
   ⟨some 27, .move (.tmp 6), some (26, false), false⟩,
   ⟨some 28, .index 9 (.tmp 27) (.const (.int .i64 0)), some (26, false), false⟩,
   ⟨some 29, .convert 5 21 (.tmp 28), some (26, false), false⟩,
   ⟨some 30, .call { callee := (.value (.func 170)), args := #[(.tmp 29)], argTypes := #[21] }, some (26, false), false⟩,
   ⟨some 31, .unOp .not 4 (.tmp 30), some (26, false), false⟩,
   ⟨some 32, .pick (.tmp 26) (.const (.bool true)) (.tmp 31), none, false⟩])
 (.cond (.tmp 32)
 (.seq (.reg [⟨some 2, .assign (.const (.string { data := #[] })), none, false⟩,
   ⟨some 3, .assign (.const (.string { data := #[] })), none, false⟩,
   ⟨some 4, .assign (.const (.int .i64 30)), none, false⟩])
 (.ret))
 (.skip)))
 (.seq (.reg [⟨some 33, .move (.tmp 5), none, false⟩,
   ⟨some 34, .move (.tmp 6), none, false⟩,
   ⟨some 2, .assign (.tmp 33), none, false⟩,
   ⟨some 3, .assign (.tmp 34), none, false⟩,
   ⟨some 4, .assign (.const (.int .i64 0)), none, false⟩])
 (.ret))))
def fr158 : FR := ⟨35, [.tmp 2, .tmp 3, .tmp 4], cc158⟩
theorem fnis158 : FnIs Tryz.prog 158 fr158 := ⟨Tryz.f158, _, [], [], Tryz.func158, rfl, by kernel_rfl, by kernel_rfl, by kernel_rfl, by kernel_rfl⟩
/-- function 159 -/
def cc159 : CC :=
 .seq (.reg [⟨some 2, .assign (.const (.string { data := #[] })), none, false⟩])
 (.seq (.reg [⟨some 3, .move (.tmp 0), none, false⟩,
   ⟨some 4, .move (.tmp 0), none, false⟩,
   ⟨some 5, .nilCheck (.tmp 4), none, false⟩,
   ⟨some 6, .fieldAddr 83 (.tmp 5) 2, none, false⟩,
   ⟨some 7, .fieldAddr 53 (.tmp 6) 2, none, false⟩,
   ⟨some 8, .load 9 (.tmp 7), none, false⟩,
   ⟨some 9, .binOp .neq 9 (.tmp 8) (.const (.string { data := #[110, 117, 108, 108] })) 9, none, false⟩,
   ⟨some 10, .move (.tmp 9), none, false⟩,
   ⟨some 11, .move (.tmp 0), some (10, true), false⟩,
   ⟨some 12, .nilCheck (.tmp 11), some (10, true), false⟩,
   ⟨some 13, .fieldAddr 83 (.tmp 12) 0, some (10, true), false⟩,
   ⟨some 14, .load 25 (.tmp 13), some (10, true), false⟩,
   ⟨some 15, .move (.tmp 0), some (10, true), false⟩,
   ⟨some 16, .nilCheck (.tmp 15), some (10, true), false⟩,
   ⟨some 17, .fieldAddr 83 (.tmp 16) 2, some (10, true), false⟩,
   ⟨some 18, .fieldAddr 53 (.tmp 17) 2, some (10, true), false⟩,
   ⟨some 19, .load 9 (.tmp 18), some (10, true), false⟩,
   ⟨some 20, .call { callee := (.value (.func 9)), args := #[(.tmp 14), (.tmp 19)], argTypes := #[25, 9] }, some (10, true), false⟩,
   ⟨some 21, .pick (.tmp 10) (.tmp 20) (.const (.bool false)), none, false⟩,
   ⟨some 22, .call { callee := (.value (.func 48)), args := #[(.tmp 3), (.tmp 21), (.const (.int .i64 76))], argTypes := #[80, 4, 32] }, none, false⟩])
 (.seq (.reg [⟨some 23, .move (.tmp 0), none, false⟩,
   ⟨some 24, .nilCheck (.tmp 23), none, false⟩,
   ⟨some 25, .fieldAddr 83 (.tmp 24) 2, none, false⟩,
   ⟨some 26, .fieldAddr 53 (.tmp 25) 2, none, false⟩,
   ⟨some 27, .load 9 (.tmp 26), none, false⟩,
   ⟨some 2, .assign (.tmp 27), none, false⟩])
 (.ret)))
def fr159 : FR := ⟨28, [.tmp 2], cc159⟩
theorem fnis159 : FnIs Tryz.prog 159 fr159 := ⟨Tryz.f159, _, [], [], Tryz.func159, rfl, by kernel_rfl, by kernel_rfl, by kernel_rfl, by kernel_rfl⟩
/-- function 160 -/
def cc160 : CC :=
 .reg [⟨some 6, .move (.tmp 0), none, false⟩,
   ⟨some 7, .move (.tmp 0), none, false⟩,
   ⟨some 8, .nilCheck (.tmp 7), none, false⟩,
   ⟨some 9, .fieldAddr 83 (.tmp 8) 0, none, false⟩,
   ⟨some 10, .load 25 (.tmp 9), none, false⟩,
   ⟨some 11, .move (.tmp 1), none, false⟩,
   ⟨some 12, .move (.tmp 2), none, false⟩,
   ⟨some 13, .call { callee := (.value (.func 55)), args := #[(.tmp 10), (.tmp 11), (.tmp 12)], argTypes := #[25, 9, 9] }, none, false⟩,
   ⟨some 14, .call { callee := (.value (.func 48)), args := #[(.tmp 6), (.tmp 13), (.const (.int .i64 73))], argTypes := #[80, 4, 32] }, none, false⟩]
def fr160 : FR := ⟨15, [], cc160⟩
theorem fnis160 : FnIs Tryz.prog 160 fr160 := ⟨Tryz.f160, _, [], [], Tryz.func160, rfl, by kernel_rfl, by kernel_rfl, by kernel_rfl, by kernel_rfl⟩
/-- function 161 -/
def cc161 : CC :=
 .seq (.reg [⟨some 2, .assign (.const (.string { data := #[] })), none, false⟩])
 (.seq (.reg [⟨some 4, .move (.tmp 0), none, false⟩,
   ⟨some 5, .call { callee := (.value (.func 88)), args := #[(.tmp 4), (.const (.int .i64 1))], argTypes := #[80, 3] }, none, false⟩,
   ⟨some 6, .indexAddr 22 (.tmp 5) (.const (.int .i64 0)), none, false⟩,
   ⟨some 7, .load 9 (.tmp 6), none, false⟩,
   ⟨some 3, .assign (.tmp 7), none, false⟩])
 (.seq (.reg [⟨some 8, .move (.tmp 0), none, false⟩,
   ⟨some 9, .move (.tmp 3), none, false⟩,
   ⟨some 10, .call { callee := (.value (.func 162)), args := #[(.tmp 8), (.tmp 9)], argTypes := #[80, 9] }, none, false⟩])
 (.seq (.reg [⟨some 11, .move (.tmp 3), none, false⟩,
   ⟨some 2, .assign (.tmp 11), none, false⟩])
 (.ret))))
def fr161 : FR := ⟨12, [.tmp 2], cc161⟩
theorem fnis161 : FnIs Tryz.prog 161 fr161 := ⟨Tryz.f161, _, [], [], Tryz.func161, rfl, by kernel_rfl, by kernel_rfl, by kernel_rfl, by kernel_rfl⟩
/-- function 162 -/
def cc162 : CC :=
 .reg [⟨some 4, .move (.tmp 0), none, false⟩,
   ⟨some 5, .move (.tmp 0), none, false⟩,
   ⟨some 6, .nilCheck (.tmp 5), none, false⟩,
   ⟨some 7, .fieldAddr 83 (.tmp 6) 0, none, false⟩,
   ⟨some 8, .load 25 (.tmp 7), none, false⟩,
   ⟨some 9, .move (.tmp 1), none, false⟩,
   ⟨some 10, .call { callee := (.value (.func 9)), args := #[(.tmp 8), (.tmp 9)], argTypes := #[25, 9] }, none, false⟩,
   ⟨some 11, .move (.tmp 10), none, false⟩,
   ⟨some 12, .move (.tmp 1), some (11, true), false⟩,
   ⟨some 13, .call { callee := (.value (.func 23)), args := #[(.tmp 12)], argTypes := #[9] }, some (11, true), false⟩,
   ⟨some 14, .unOp .not 4 (.tmp 13), some (11, true), false⟩,
   ⟨some 15, .pick (.tmp 11) (.tmp 14) (.const (.bool false)), none, false⟩,
   ⟨some 16, .call { callee := (.value (.func 48)), args := #[(.tmp 4), (.tmp 15), (.const (.int .i64 73))], argTypes := #[80, 4, 32] }, none, false⟩]
def fr162 : FR := ⟨17, [], cc162⟩
theorem fnis162 : FnIs Tryz.prog 162 fr162 := ⟨Tryz.f162, _, [], [], Tryz.func162, rfl, by kernel_rfl, by kernel_rfl, by kernel_rfl, by kernel_rfl⟩
/-- function 163 -/
def cc163 : CC :=
 .seq (.reg [⟨some 2, .assign (.const (.bool false)), none, false⟩])
 (.seq (.reg [⟨some 3, .move (.tmp 0), none, false⟩,
   ⟨some 4, .binOp .and 5 (.tmp 3) (.const (.int .u8 192)) 5, none, false⟩,
   ⟨some 5, .binOp .neq 5 (.tmp 4) (.const (.int .u8 128)) 5, none, false⟩,
   ⟨some 2, .assign (.tmp 5), none, false⟩])
 (.ret))
def fr163 : FR := ⟨6, [.tmp 2], cc163⟩
theorem fnis163 : FnIs Tryz.prog 163 fr163 := ⟨Tryz.f163, _, [], [], Tryz.func163, rfl, by kernel_rfl, by kernel_rfl, by kernel_rfl, by kernel_rfl⟩
/-- function 164 -/
def cc164 : CC :=
 .seq (.reg [⟨some 2, .assign (.const (.int .i32 0)), none, false⟩,
   ⟨some 3, .assign (.const (.int .i64 0)), none, false⟩])
 (.seq (.seq (.reg [⟨some 4, .move (.tmp 0), none, false⟩,
   ⟨some 5, .binOp .neq 9 (.tmp 4) (.const (.string { data := #[] })) 9, none, false⟩,
   ⟨some 6, .move (.tmp 5), none, false⟩,
   ⟨some 7, .move (.tmp 0), some (6, true), false⟩,
   ⟨some 8, .index 9 (.tmp 7) (.const (.int .i64 0)), some (6, true), false⟩,
   ⟨some 9, .binOp .lss 5 (.tmp 8) (.const (.int .u8 128)) 5, some (6, true), false⟩,
   ⟨some 10, .pick (.tmp 6) (.tmp 9) (.const (.bool false)), none, false⟩])
 (.cond (.tmp 10)
 (.seq (.reg [⟨some 11, .move (.tmp 0), none, false⟩,
   ⟨some 12, .index 9 (.tmp 11) (.const (.int .i64 0)), none, false⟩,
   ⟨some 13, .convert 5 21 (.tmp 12), none, false⟩,
   ⟨some 2, .assign (.tmp 13), none, false⟩,
   ⟨some 3, .assign (.const (.int .i64 1)), none, false⟩])
 (.ret))
 (.reg [⟨some 15, .move (.tmp 0), none, false⟩,
   ⟨some 16, .call { callee := (.value (.func 195)), args := #[(.tmp 15)], argTypes := #[9] }, none, false⟩,
   ⟨some 14, .move (.tmp 16), none, false⟩,
   ⟨some 17, .extract (.tmp 14) 0, none, false⟩,
   ⟨some 18, .extract (.tmp 14) 1, none, false⟩,
   ⟨some 2, .assign (.tmp 17), none, false⟩,
   ⟨some 3, .assign (.tmp 18), none, false⟩])))
 (.ret))
def fr164 : FR := ⟨19, [.tmp 2, .tmp 3], cc164⟩
theorem fnis164 : FnIs Tryz.prog 164 fr164 := ⟨Tryz.f164, _, [], [], Tryz.func164, rfl, by kernel_rfl, by kernel_rfl, by kernel_rfl, by kernel_rfl⟩
/-- function 166 -/
def cc166 : CC :=
 .seq (.reg [⟨some 4, .assign (.const (.bool false)), none, false⟩])
 (.seq (.reg [⟨some 5, .move (.tmp 0), none, false⟩,
   ⟨some 6, .call { callee := (.builtin .len), args := #[(.tmp 5)], argTypes := #[9] }, none, false⟩,
   ⟨some 7, .move (.tmp 1), none, false⟩,
   ⟨some 8, .call { callee := (.builtin .len), args := #[(.tmp 7)], argTypes := #[9] }, none, false⟩,
   ⟨some 9, .binOp .geq 3 (.tmp 6) (.tmp 8) 3, none, false⟩,
   ⟨some 10, .move (.tmp 9), none, false⟩,
   ⟨some 11, .move (.tmp 0), some (10, true), false⟩,
   ⟨some 12, .move (.tmp 0), some (10, true), false⟩,
   ⟨some 13, .call { callee := (.builtin .len), args := #[(.tmp 12)], argTypes := #[9] }, some (10, true), false⟩,
   ⟨some 14, .move (.tmp 1), some (10, true), false⟩,
   ⟨some 15, .call { callee := (.builtin .len), args := #[(.tmp 14)], argTypes := #[9] }, some (10, true), false⟩,
   ⟨some 16, .binOp .sub 3 (.tmp 13) (.tmp 15) 3, some (10, true), false⟩,
   ⟨some 17, .slice 9 (.tmp 11) (some (.tmp 16)) none none, some (10, true), false⟩,
   ⟨some 18, .move (.tmp 1), some (10, true), false⟩,
   ⟨some 19, .binOp .eql 9 (.tmp 17) (.tmp 18) 9, some (10, true), false⟩,
   ⟨some 20, .pick (.tmp 10) (.tmp 19) (.const (.bool false)), none, false⟩,
   ⟨some 4, .assign (.tmp 20), none, false⟩])
 (.ret))
def fr166 : FR := ⟨21, [.tmp 4], cc166⟩
theorem fnis166 : FnIs Tryz.prog 166 fr166 := ⟨Tryz.f166, _, [], [], Tryz.func166, rfl, by kernel_rfl, by kernel_rfl, by kernel_rfl, by kernel_rfl⟩
/-- function 167 -/
def cc167 : CC :=
 .seq (.reg [⟨some 4, .assign (.const (.string { data := #[] })), none, false⟩])
 (.seq (.seq (.reg [⟨some 5, .move (.tmp 0), none, false⟩,
   ⟨some 6, .move (.tmp 1), none, false⟩,
   ⟨some 7, .call { callee := (.value (.func 166)), args := #[(.tmp 5), (.tmp 6)], argTypes := #[9, 9] }, none, false⟩])
 (.cond (.tmp 7)
 (.seq (.reg [⟨some 8, .move (.tmp 0), none, false⟩,
   ⟨some 9, .move (.tmp 0), none, false⟩,
   ⟨some 10, .call { callee := (.builtin .len), args := #[(.tmp 9)], argTypes := #[9] }, none, false⟩,
   ⟨some 11, .move (.tmp 1), none, false⟩,
   ⟨some 12, .call { callee := (.builtin .len), args := #[(.tmp 11)], argTypes := #[9] }, none, false⟩,
   ⟨some 13, .binOp .sub 3 (.tmp 10) (.tmp 12) 3, none, false⟩,
   ⟨some 14, .slice 9 (.tmp 8) none (some (.tmp 13)) none, none, false⟩,
   ⟨some 4, .assign (.tmp 14), none, false⟩])
 (.ret))
 (.skip)))
 (.seq (.reg [⟨some 15, .move (.tmp 0), none, false⟩,
   ⟨some 4, .assign (.tmp 15), none, false⟩])
 (.ret)))
def fr167 : FR := ⟨16, [.tmp 4], cc167⟩
theorem fnis167 : FnIs Tryz.prog 167 fr167 := ⟨Tryz.f167, _, [], [], Tryz.func167, rfl, by kernel_rfl, by kernel_rfl, by kernel_rfl, by kernel_rfl⟩
/-- function 168 -/
def cc168 : CC :=
 .seq (.reg [⟨some 4, .assign (.const (.bool false)), none, false⟩])
 (.seq (.seq (.reg [⟨some 7, .move (.tmp 0), none, false⟩,
   ⟨some 8, .range 9 (.tmp 7), none, false⟩])
 (.block 0
 (.loop [1, 8]
 (.seq (.reg [⟨some 9, .next (.tmp 8) true, none, false⟩,
   ⟨some 10, .extract (.tmp 9) 0, none, false⟩])
 (.seq (.cond (.tmp 10)
 (.skip)
 (.exit 0))
 (.block 1
 (.seq (.reg [⟨some 11, .extract (.tmp 9) 2, none, false⟩,
   ⟨some 6, .assign (.tmp 11), none, false⟩])
 (.seq (.reg [⟨some 12, .move (.tmp 1), none, false⟩,
   ⟨some 13, .move (.tmp 6), none, false⟩,
   ⟨some 14, .call { callee := (.value (.tmp 12)), args := #[(.tmp 13)], argTypes := #[21] }, none, false⟩,
   ⟨some 15, .unOp .not 4 (.tmp 14), none, false⟩])
 (.cond (.tmp 15)
 (.seq (.reg [⟨some 4, .assign (.const (.bool false)), none, false⟩])
 (.ret))
 (.skip))))))))))
 (.seq (.reg [⟨some 4, .assign (.const (.bool true)), none, false⟩])
 (.ret)))
def fr168 : FR := ⟨16, [.tmp 4], cc168⟩
theorem fnis168 : FnIs Tryz.prog 168 fr168 := ⟨Tryz.f168, _, [[1, 8]], [], Tryz.func168, rfl, by kernel_rfl, by kernel_rfl, by kernel_rfl, by kernel_rfl⟩
end Go.Proofs.YtijkkgloennglaaGreatDoor.Ab
