/-
  Functions of the translated program, compiled. No condition.
-/
import Derived.Test.YtijkkgloennglaaGreatDoorFw14
import Derived.KernelRfl
import Derived.Test.YtijkkgloennglaaGreatDoorProg
set_option maxRecDepth 100000
namespace Go.Proofs.YtijkkgloennglaaGreatDoor.Ab
open Go Go.RowKit
/-- function 169 -/
def cc169 : CC :=
 .seq (.reg [⟨some 2, .assign (.const (.bool false)), none, false⟩])
 (.seq (.reg [⟨some 3, .move (.tmp 0), none, false⟩,
   ⟨some 4, .call { callee := (.value (.func 111)), args := #[(.tmp 3)], argTypes := #[21] }, none, false⟩,
   ⟨some 5, .move (.tmp 4), none, false⟩,
   ⟨some 6, .move (.tmp 0), some (5, false), false⟩,
   ⟨some 7, .call { callee := (.value (.func 170)), args := #[(.tmp 6)], argTypes := #[21] }, some (5, false), false⟩,
   ⟨some 8, .pick (.tmp 5) (.const (.bool true)) (.tmp 7), none, false⟩,
   ⟨some 9, .move (.tmp 8), none, false⟩,
   ⟨some 10, .move (.tmp 0), some (9, false), false⟩,
   ⟨some 11, .binOp .geq 21 (.tmp 10) (.const (.int .i32 48)) 21, some (9, false), false⟩,
   ⟨some 12, .move (.tmp 11), some (9, false), false⟩,
   ⟨some 13, .move (.tmp 0), some (12, true), false⟩,
   ⟨some 14, .binOp .leq 21 (.tmp 13) (.const (.int .i32 57)) 21, some (12, true), false⟩,
   ⟨some 15, .pick (.tmp 12) (.tmp 14) (.const (.bool false)), some (9, false), false⟩,
   ⟨some 16, .pick (.tmp 9) (.const (.bool true)) (.tmp 15), none, false⟩,
   ⟨some 2, .assign (.tmp 16), none, false⟩])
 (.ret))
def fr169 : FR := ⟨17, [.tmp 2], cc169⟩
theorem fnis169 : FnIs Tryz.prog 169 fr169 := ⟨Tryz.f169, _, [], [], Tryz.func169, rfl, by kernel_rfl, by kernel_rfl, by kernel_rfl, by kernel_rfl⟩
/-- function 170 -/
def cc170 : CC :=
 .seq (.reg [⟨some 2, .assign (.const (.bool false)), none, false⟩])
 (.seq (.reg [⟨some 3, .move (.tmp 0), none, false⟩,
   ⟨some 4, .binOp .geq 21 (.tmp 3) (.const (.int .i32 97)) 21, none, false⟩,
   ⟨some 5, .move (.tmp 4), none, false⟩,
   ⟨some 6, .move (.tmp 0), some (5, true), false⟩,
   ⟨some 7, .binOp .leq 21 (.tmp 6) (.const (.int .i32 122)) 21, some (5, true), false⟩,
   ⟨some 8, .pick (.tmp 5) (.tmp 7) (.const (.bool false)), none, false⟩,
   ⟨some 2, .assign (.tmp 8), none, false⟩])
 (.ret))
def fr170 : FR := ⟨9, [.tmp 2], cc170⟩
theorem fnis170 : FnIs Tryz.prog 170 fr170 := ⟨Tryz.f170, _, [], [], Tryz.func170, rfl, by kernel_rfl, by kernel_rfl, by kernel_rfl, by kernel_rfl⟩
/-- function 171 -/
def cc171 : CC :=
 .seq (.reg [⟨some 4, .assign (.const (.string { data := #[] })), none, false⟩,
   ⟨some 5, .assign (.const (.bool false)), none, false⟩])
 (.seq (.reg [⟨some 6, .move (.tmp 0), none, false⟩,
   ⟨some 7, .move (.tmp 1), none, false⟩,
   ⟨some 8, .call { callee := (.value (.func 200)), args := #[(.tmp 6), (.tmp 7)], argTypes := #[9, 9] }, none, false⟩,
   ⟨some 9, .extract (.tmp 8) 0, none, false⟩,
   ⟨some 10, .extract (.tmp 8) 1, none, false⟩,
   ⟨some 4, .assign (.tmp 9), none, false⟩,
   ⟨some 5, .assign (.tmp 10), none, false⟩])
 (.ret))
def fr171 : FR := ⟨11, [.tmp 4, .tmp 5], cc171⟩
theorem fnis171 : FnIs Tryz.prog 171 fr171 := ⟨Tryz.f171, _, [], [], Tryz.func171, rfl, by kernel_rfl, by kernel_rfl, by kernel_rfl, by kernel_rfl⟩
/-- function 172 -/
def cc172 : CC :=
 .seq (.reg [⟨some 4, .assign (.const (.int .i64 0)), none, false⟩])
 (.seq (.seq (.reg [⟨some 6, .move (.tmp 0), none, false⟩,
   ⟨some 7, .call { callee := (.builtin .len), args := #[(.tmp 6)], argTypes := #[22] }, none, false⟩,
   ⟨some 8, .move (.const (.int .i64 0)), none, false⟩])
 (.block 0
 (.loop [0, 1, 7, 8]
 (.seq (.reg [⟨some 9, .binOp .lss 3 (.tmp 8) (.tmp 7) 3, none, false⟩])
 (.seq (.cond (.tmp 9)
 (.skip)
 (.exit 0))
 (.seq (.block 1
 (.seq (.reg [⟨some 10, .move (.tmp 8), none, false⟩,
   ⟨some 5, .assign (.tmp 10), none, false⟩])
 (.seq (.reg [⟨some 11, .move (.tmp 1), none, false⟩,
   ⟨some 12, .move (.tmp 0), none, false⟩,
   ⟨some 13, .move (.tmp 5), none, false⟩,
   ⟨some 14, .indexAddr 22 (.tmp 12) (.tmp 13), none, false⟩,
   ⟨some 15, .load 9 (.tmp 14), none, false⟩,
   ⟨some 16, .binOp .eql 9 (.tmp 11) (.tmp 15) 9, none, false⟩])
 (.cond (.tmp 16)
 (.seq (.reg [⟨some 17, .move (.tmp 5), none, false⟩,
   ⟨some 4, .assign (.tmp 17), none, false⟩])
 (.ret))
 (.skip)))))
 (.reg [⟨some 18, .binOp .add 3 (.tmp 8) (.const (.int .i64 1)) 3, none, false⟩,
   ⟨some 8, .move (.tmp 18), none, false⟩])))))))
 (.seq (.reg [⟨some 4, .assign (.const (.int .i64 (-1))), none, false⟩])
 (.ret)))
def fr172 : FR := ⟨19, [.tmp 4], cc172⟩
theorem fnis172 : FnIs Tryz.prog 172 fr172 := ⟨Tryz.f172, _, [[0, 1, 7, 8]], [], Tryz.func172, rfl, by kernel_rfl, by kernel_rfl, by kernel_rfl, by kernel_rfl⟩
/-- function 173 -/
def cc173 : CC :=
 .seq (.reg [⟨some 3, .assign (.const (.bool false)), none, false⟩])
 (.seq (.reg [⟨some 4, .load 31 (.tmp 1), none, false⟩,
   ⟨some 5, .move (.tmp 0), none, false⟩,
   ⟨some 6, .call { callee := (.value (.tmp 4)), args := #[(.tmp 5)], argTypes := #[9] }, none, false⟩,
   ⟨some 7, .unOp .not 4 (.tmp 6), none, false⟩,
   ⟨some 3, .assign (.tmp 7), none, false⟩])
 (.ret))
def fr173 : FR := ⟨8, [.tmp 3], cc173⟩
theorem fnis173 : FnIs Tryz.prog 173 fr173 := ⟨Tryz.f173, _, [], [], Tryz.func173, rfl, by kernel_rfl, by kernel_rfl, by kernel_rfl, by kernel_rfl⟩
/-- function 174 -/
def cc174 : CC :=
 .seq (.reg [⟨some 4, .assign (.const (.bool false)), none, false⟩])
 (.seq (.reg [⟨some 5, .load 129 (.tmp 1), none, false⟩,
   ⟨some 6, .move (.tmp 0), none, false⟩,
   ⟨some 8, .load 129 (.tmp 1), none, false⟩,
   ⟨some 9, .load 9 (.tmp 2), none, false⟩,
   ⟨some 7, .call { callee := (.value (.tmp 5)), args := #[(.tmp 6)], argTypes := #[9] }, none, false⟩,
   ⟨some 8, .load 129 (.tmp 1), none, true⟩,
   ⟨some 9, .load 9 (.tmp 2), none, true⟩,
   ⟨some 10, .call { callee := (.value (.tmp 8)), args := #[(.tmp 9)], argTypes := #[9] }, none, false⟩,
   ⟨some 11, .binOp .eql 9 (.tmp 7) (.tmp 10) 9, none, false⟩,
   ⟨some 4, .assign (.tmp 11), none, false⟩])
 (.ret))
def fr174 : FR := ⟨12, [.tmp 4], cc174⟩
theorem fnis174 : FnIs Tryz.prog 174 fr174 := ⟨Tryz.f174, _, [], [], Tryz.func174, rfl, by kernel_rfl, by kernel_rfl, by kernel_rfl, by kernel_rfl⟩
/-- function 175 -/
def cc175 : CC :=
 .seq (.reg [⟨some 4, .assign (.const (.bool false)), none, false⟩])
 (.seq (.reg [⟨some 5, .move (.tmp 0), none, false⟩,
   ⟨some 6, .move (.tmp 1), none, false⟩,
   ⟨some 7, .call { callee := (.value (.func 133)), args := #[(.tmp 5), (.tmp 6)], argTypes := #[62, 136] }, none, false⟩,
   ⟨some 8, .binOp .geq 3 (.tmp 7) (.const (.int .i64 0)) 3, none, false⟩,
   ⟨some 4, .assign (.tmp 8), none, false⟩])
 (.ret))
def fr175 : FR := ⟨9, [.tmp 4], cc175⟩
theorem fnis175 : FnIs Tryz.prog 175 fr175 := ⟨Tryz.f175, _, [], [], Tryz.func175, rfl, by kernel_rfl, by kernel_rfl, by kernel_rfl, by kernel_rfl⟩
/-- function 176 -/
def cc176 : CC :=
 .seq (.reg [⟨some 3, .box 72 (.tmp 0), none, false⟩,
   ⟨some 4, .assign (.const (.bool false)), none, false⟩])
 (.seq (.reg [⟨some 5, .load 133 (.tmp 1), none, false⟩,
   ⟨some 6, .load 72 (.tmp 3), none, false⟩,
   ⟨some 8, .load 133 (.tmp 1), none, false⟩,
   ⟨some 9, .load 72 (.tmp 2), none, false⟩,
   ⟨some 7, .call { callee := (.value (.tmp 5)), args := #[(.tmp 6)], argTypes := #[72] }, none, false⟩,
   ⟨some 8, .load 133 (.tmp 1), none, true⟩,
   ⟨some 9, .load 72 (.tmp 2), none, true⟩,
   ⟨some 10, .call { callee := (.value (.tmp 8)), args := #[(.tmp 9)], argTypes := #[72] }, none, false⟩,
   ⟨some 11, .binOp .eql 9 (.tmp 7) (.tmp 10) 9, none, false⟩,
   ⟨some 4, .assign (.tmp 11), none, false⟩])
 (.ret))
def fr176 : FR := ⟨12, [.tmp 4], cc176⟩
theorem fnis176 : FnIs Tryz.prog 176 fr176 := ⟨Tryz.f176, _, [], [], Tryz.func176, rfl, by kernel_rfl, by kernel_rfl, by kernel_rfl, by kernel_rfl⟩
/-- function 177 -/
def cc177 : CC :=
 .seq (.reg [⟨some 3, .box 39 (.tmp 0), none, false⟩,
   ⟨some 4, .assign (.const (.bool false)), none, false⟩])
 (.seq (.reg [⟨some 5, .load 113 (.tmp 1), none, false⟩,
   ⟨some 6, .load 39 (.tmp 3), none, false⟩,
   ⟨some 8, .load 113 (.tmp 1), none, false⟩,
   ⟨some 9, .load 39 (.tmp 2), none, false⟩,
   ⟨some 7, .call { callee := (.value (.tmp 5)), args := #[(.tmp 6)], argTypes := #[39] }, none, false⟩,
   ⟨some 8, .load 113 (.tmp 1), none, true⟩,
   ⟨some 9, .load 39 (.tmp 2), none, true⟩,
   ⟨some 10, .call { callee := (.value (.tmp 8)), args := #[(.tmp 9)], argTypes := #[39] }, none, false⟩,
   ⟨some 11, .binOp .eql 9 (.tmp 7) (.tmp 10) 9, none, false⟩,
   ⟨some 4, .assign (.tmp 11), none, false⟩])
 (.ret))
def fr177 : FR := ⟨12, [.tmp 4], cc177⟩
theorem fnis177 : FnIs Tryz.prog 177 fr177 := ⟨Tryz.f177, _, [], [], Tryz.func177, rfl, by kernel_rfl, by kernel_rfl, by kernel_rfl, by kernel_rfl⟩
/-- function 178 -/
def cc178 : CC :=
 .seq (.reg [⟨some 2, .box 72 (.tmp 0), none, false⟩,
   ⟨some 3, .assign (.const (.bool false)), none, false⟩])
 (.seq (.reg [⟨some 4, .load 136 (.tmp 1), none, false⟩,
   ⟨some 5, .load 72 (.tmp 2), none, false⟩,
   ⟨some 6, .call { callee := (.value (.tmp 4)), args := #[(.tmp 5)], argTypes := #[72] }, none, false⟩,
   ⟨some 7, .unOp .not 4 (.tmp 6), none, false⟩,
   ⟨some 3, .assign (.tmp 7), none, false⟩])
 (.ret))
def fr178 : FR := ⟨8, [.tmp 3], cc178⟩
theorem fnis178 : FnIs Tryz.prog 178 fr178 := ⟨Tryz.f178, _, [], [], Tryz.func178, rfl, by kernel_rfl, by kernel_rfl, by kernel_rfl, by kernel_rfl⟩
/-- function 179 -/
def cc179 : CC :=
 .seq (.reg [⟨some 2, .box 39 (.tmp 0), none, false⟩,
   ⟨some 3, .assign (.const (.bool false)), none, false⟩])
 (.seq (.reg [⟨some 4, .load 114 (.tmp 1), none, false⟩,
   ⟨some 5, .load 39 (.tmp 2), none, false⟩,
   ⟨some 6, .call { callee := (.value (.tmp 4)), args := #[(.tmp 5)], argTypes := #[39] }, none, false⟩,
   ⟨some 7, .unOp .not 4 (.tmp 6), none, false⟩,
   ⟨some 3, .assign (.tmp 7), none, false⟩])
 (.ret))
def fr179 : FR := ⟨8, [.tmp 3], cc179⟩
theorem fnis179 : FnIs Tryz.prog 179 fr179 := ⟨Tryz.f179, _, [], [], Tryz.func179, rfl, by kernel_rfl, by kernel_rfl, by kernel_rfl, by kernel_rfl⟩
/-- function 180 -/
def cc180 : CC :=
 .seq (.reg [⟨some 2, .box 140 (.tmp 0), none, false⟩,
   ⟨some 3, .assign (.const (.bool false)), none, false⟩])
 (.seq (.reg [⟨some 4, .fieldAddr 140 (.tmp 2) 0, none, false⟩,
   ⟨some 5, .load 3 (.tmp 4), none, false⟩,
   ⟨some 6, .binOp .geq 3 (.tmp 5) (.const (.int .i64 0)) 3, none, false⟩,
   ⟨some 7, .move (.tmp 6), none, false⟩,
   ⟨some 8, .fieldAddr 140 (.tmp 2) 1, some (7, true), false⟩,
   ⟨some 9, .load 3 (.tmp 8), some (7, true), false⟩,
   ⟨some 10, .fieldAddr 140 (.tmp 2) 0, some (7, true), false⟩,
   ⟨some 11, .load 3 (.tmp 10), some (7, true), false⟩,
   ⟨some 12, .binOp .gtr 3 (.tmp 9) (.tmp 11) 3, some (7, true), false⟩,
   ⟨some 13, .pick (.tmp 7) (.tmp 12) (.const (.bool false)), none, false⟩,
   ⟨some 14, .move (.tmp 13), none, false⟩,
   ⟨some 15, .fieldAddr 140 (.tmp 2) 1, some (14, true), false⟩,
   ⟨some 16, .load 3 (.tmp 15), some (14, true), false⟩,
   ⟨some 17, .load 3 (.tmp 1), some (14, true), false⟩,
   ⟨some 18, .binOp .leq 3 (.tmp 16) (.tmp 17) 3, some (14, true), false⟩,
   ⟨some 19, .pick (.tmp 14) (.tmp 18) (.const (.bool false)), none, false⟩,
   ⟨some 20, .move (.tmp 19), none, false⟩,
   ⟨some 21, .fieldAddr 140 (.tmp 2) 2, some (20, true), false⟩,
   ⟨some 22, .load 3 (.tmp 21), some (20, true), false⟩,
   ⟨some 23, .binOp .geq 3 (.tmp 22) (.const (.int .i64 0)) 3, some (20, true), false⟩,
   ⟨some 24, .pick (.tmp 20) (.tmp 23) (.const (.bool false)), none, false⟩,
   ⟨some 25, .move (.tmp 24), none, false⟩,
   ⟨some 26, .fieldAddr 140 (.tmp 2) 2, some (25, true), false⟩,
   ⟨some 27, .load 3 (.tmp 26), some (25, true), false⟩,
   ⟨some 28, .load 3 (.tmp 1), some (25, true), false⟩,
   ⟨some 29, .binOp .lss 3 (.tmp 27) (.tmp 28) 3, some (25, true), false⟩,
   ⟨some 30, .pick (.tmp 25) (.tmp 29) (.const (.bool false)), none, false⟩,
   ⟨some 31, .move (.tmp 30), none, false⟩,
   ⟨some 32, .fieldAddr 140 (.tmp 2) 3, some (31, true), false⟩,
   ⟨some 33, .load 9 (.tmp 32), some (31, true), false⟩,
   ⟨some 34, .call { callee := (.value (.func 54)), args := #[(.tmp 33)], argTypes := #[9] }, some (31, true), false⟩,
   ⟨some 35, .pick (.tmp 31) (.tmp 34) (.const (.bool false)), none, false⟩,
   ⟨some 3, .assign (.tmp 35), none, false⟩])
 (.ret))
def fr180 : FR := ⟨36, [.tmp 3], cc180⟩
theorem fnis180 : FnIs Tryz.prog 180 fr180 := ⟨Tryz.f180, _, [], [], Tryz.func180, rfl, by kernel_rfl, by kernel_rfl, by kernel_rfl, by kernel_rfl⟩
/-- function 181 -/
def cc181 : CC :=
 .seq (.reg [⟨some 3, .box 172 (.tmp 1), none, false⟩,
   ⟨some 4, .assign (.const (.bool false)), none, false⟩])
 (.seq (.reg [⟨some 5, .move (.tmp 0), none, false⟩,
   ⟨some 6, .makeFunc (.func 202) #[] #[(.tmp 3)], none, false⟩,
   ⟨some 7, .call { callee := (.value (.func 201)), args := #[(.tmp 5), (.tmp 6)], argTypes := #[36, 172] }, none, false⟩,
   ⟨some 8, .unOp .not 4 (.tmp 7), none, false⟩,
   ⟨some 4, .assign (.tmp 8), none, false⟩])
 (.ret))
def fr181 : FR := ⟨9, [.tmp 4], cc181⟩
theorem fnis181 : FnIs Tryz.prog 181 fr181 := ⟨Tryz.f181, _, [], [], Tryz.func181, rfl, by kernel_rfl, by kernel_rfl, by kernel_rfl, by kernel_rfl⟩
/-- function 182 -/
def cc182 : CC :=
 .seq (.reg [⟨some 1, .box 53 (.tmp 0), none, false⟩,
   ⟨some 2, .assign (.const (.bool false)), none, false⟩])
 (.seq (.reg [⟨some 3, .load 53 (.tmp 1), none, false⟩,
   ⟨some 4, .call { callee := (.value (.func 183)), args := #[(.tmp 3)], argTypes := #[53] }, none, false⟩,
   ⟨some 5, .binOp .eql 32 (.tmp 4) (.const (.int .i64 0)) 32, none, false⟩,
   ⟨some 2, .assign (.tmp 5), none, false⟩])
 (.ret))
def fr182 : FR := ⟨6, [.tmp 2], cc182⟩
theorem fnis182 : FnIs Tryz.prog 182 fr182 := ⟨Tryz.f182, _, [], [], Tryz.func182, rfl, by kernel_rfl, by kernel_rfl, by kernel_rfl, by kernel_rfl⟩
/-- function 183 -/
def cc183 : CC :=
 .seq (.reg [⟨some 1, .box 53 (.tmp 0), none, false⟩,
   ⟨some 2, .assign (.const (.int .i64 0)), none, false⟩])
 (.seq (.reg [⟨some 7, .fieldAddr 53 (.tmp 1) 0, none, false⟩,
   ⟨some 8, .load 9 (.tmp 7), none, false⟩,
   ⟨some 9, .call { callee := (.value (.func 203)), args := #[(.tmp 8)], argTypes := #[9] }, none, false⟩,
   ⟨some 6, .move (.tmp 9), none, false⟩,
   ⟨some 10, .extract (.tmp 6) 0, none, false⟩,
   ⟨some 11, .extract (.tmp 6) 1, none, false⟩,
   ⟨some 12, .extract (.tmp 6) 2, none, false⟩,
   ⟨some 3, .assign (.tmp 10), none, false⟩,
   ⟨some 4, .assign (.tmp 11), none, false⟩,
   ⟨some 5, .assign (.tmp 12), none, false⟩])
 (.seq (.block 0
 (.seq (.reg [⟨some 14, .move (.tmp 5), none, false⟩,
   ⟨some 15, .unOp .not 4 (.tmp 14), none, false⟩,
   ⟨some 13, .assign (.tmp 15), none, false⟩])
 (.cond (.tmp 13)
 (.seq (.reg [⟨some 2, .assign (.const (.int .i64 40)), none, false⟩])
 (.ret))
 (.seq (.seq (.reg [⟨some 17, .move (.tmp 3), none, false⟩,
   ⟨some 18, .unOp .not 4 (.tmp 17), none, false⟩,
   ⟨some 19, .move (.tmp 18), none, false⟩,
   ⟨some 20, .fieldAddr 53 (.tmp 1) 1, some (19, true), false⟩,
   ⟨some 21, .load 2 (.tmp 20), some (19, true), false⟩,
   ⟨some 22, .binOp .neq 2 (.tmp 21) (.const (.int .i64 0)) 2, some (19, true), false⟩,
   ⟨some 23, .pick (.tmp 19) (.tmp 22) (.const (.bool false)), none, false⟩,
   ⟨some 16, .assign (.tmp 23), none, false⟩])
 (.cond (.tmp 16)
 (.skip)
 (.seq (.reg [⟨some 24, .move (.tmp 4), none, false⟩,
   ⟨some 25, .unOp .not 4 (.tmp 24), none, false⟩,
   ⟨some 26, .move (.tmp 25), none, false⟩,
   ⟨some 27, .fieldAddr 53 (.tmp 1) 2, some (26, true), false⟩,
   ⟨some 28, .load 9 (.tmp 27), some (26, true), false⟩,
   ⟨some 29, .binOp .neq 9 (.tmp 28) (.const (.string { data := #[] })) 9, some (26, true), false⟩,
   ⟨some 30, .pick (.tmp 26) (.tmp 29) (.const (.bool false)), none, false⟩,
   ⟨some 16, .assign (.tmp 30), none, false⟩])
 (.cond (.tmp 16)
 (.skip)
 (.reg [⟨some 31, .move (.tmp 4), none, false⟩,
   ⟨some 32, .move (.tmp 31), none, false⟩,
   ⟨some 33, .fieldAddr 53 (.tmp 1) 0, some (32, true), false⟩,
   ⟨some 34, .load 9 (.tmp 33), some (32, true), false⟩,
   ⟨some 35, .fieldAddr 53 (.tmp 1) 2, some (32, true), false⟩,
   ⟨some 36, .load 9 (.tmp 35), some (32, true), false⟩,
   ⟨some 37, .call { callee := (.value (.func 204)), args := #[(.tmp 34), (.tmp 36)], argTypes := #[9, 9] }, some (32, true), false⟩,
   ⟨some 38, .unOp .not 4 (.tmp 37), some (32, true), false⟩,
   ⟨some 39, .pick (.tmp 32) (.tmp 38) (.const (.bool false)), none, false⟩,
   ⟨some 16, .assign (.tmp 39), none, false⟩])))))
 (.cond (.tmp 16)
 (.seq (.reg [⟨some 2, .assign (.const (.int .i64 41)), none, false⟩])
 (.ret))
 (.skip))))))
 (.seq (.reg [⟨some 2, .assign (.const (.int .i64 0)), none, false⟩])
 (.ret))))
def fr183 : FR := ⟨40, [.tmp 2], cc183⟩
theorem fnis183 : FnIs Tryz.prog 183 fr183 := ⟨Tryz.f183, _, [], [], Tryz.func183, rfl, by kernel_rfl, by kernel_rfl, by kernel_rfl, by kernel_rfl⟩
/-- function 184 -/
def cc184 : CC :=
 .seq (.reg [⟨some 3, .box 169 (.tmp 1), none, false⟩,
   ⟨some 4, .assign (.const (.bool false)), none, false⟩])
 (.seq (.reg [⟨some 5, .move (.tmp 0), none, false⟩,
   ⟨some 6, .makeFunc (.func 206) #[] #[(.tmp 3)], none, false⟩,
   ⟨some 7, .call { callee := (.value (.func 205)), args := #[(.tmp 5), (.tmp 6)], argTypes := #[37, 169] }, none, false⟩,
   ⟨some 8, .unOp .not 4 (.tmp 7), none, false⟩,
   ⟨some 4, .assign (.tmp 8), none, false⟩])
 (.ret))
def fr184 : FR := ⟨9, [.tmp 4], cc184⟩
theorem fnis184 : FnIs Tryz.prog 184 fr184 := ⟨Tryz.f184, _, [], [], Tryz.func184, rfl, by kernel_rfl, by kernel_rfl, by kernel_rfl, by kernel_rfl⟩
/-- function 185 -/
def cc185 : CC :=
 .seq (.reg [⟨some 4, .move (.tmp 0), none, false⟩,
   ⟨some 5, .call { callee := (.value (.func 207)), args := #[(.tmp 4)], argTypes := #[174] }, none, false⟩])
 (.seq (.seq (.reg [⟨some 6, .move (.tmp 1), none, false⟩,
   ⟨some 7, .binOp .lss 3 (.tmp 6) (.const (.int .i64 0)) 3, none, false⟩])
 (.cond (.tmp 7)
 (.reg [⟨some 8, .makeInterface 9 (.const (.string { data := #[115, 116, 114, 105, 110, 103, 115, 46, 66, 117, 105, 108, 100, 101, 114, 46, 71, 114, 111, 119, 58, 32, 110, 101, 103, 97, 116, 105, 118, 101, 32, 99, 111, 117, 110, 116] })), none, false⟩,
   ⟨none, .panic (.tmp 8), none, false⟩])
 (.skip)))
 (.seq (.reg [⟨some 9, .move (.tmp 0), none, false⟩,
   ⟨some 10, .nilCheck (.tmp 9), none, false⟩,
   ⟨some 11, .fieldAddr 177 (.tmp 10) 1, none, false⟩,
   ⟨some 12, .load 175 (.tmp 11), none, false⟩,
   ⟨some 14, .move (.tmp 0), none, false⟩,
   ⟨some 15, .nilCheck (.tmp 14), none, false⟩,
   ⟨some 16, .fieldAddr 177 (.tmp 15) 1, none, false⟩,
   ⟨some 17, .load 175 (.tmp 16), none, false⟩,
   ⟨some 18, .call { callee := (.builtin .len), args := #[(.tmp 17)], argTypes := #[175] }, none, false⟩,
   ⟨some 20, .move (.tmp 1), none, false⟩,
   ⟨some 13, .call { callee := (.builtin .cap), args := #[(.tmp 12)], argTypes := #[175] }, none, false⟩,
   ⟨some 17, .load 175 (.tmp 16), none, true⟩,
   ⟨some 18, .call { callee := (.builtin .len), args := #[(.tmp 17)], argTypes := #[175] }, none, true⟩,
   ⟨some 19, .binOp .sub 3 (.tmp 13) (.tmp 18) 3, none, false⟩,
   ⟨some 21, .binOp .lss 3 (.tmp 19) (.tmp 20) 3, none, false⟩])
 (.cond (.tmp 21)
 (.reg [⟨some 22, .move (.tmp 0), none, false⟩,
   ⟨some 23, .move (.tmp 1), none, false⟩,
   ⟨some 24, .call { callee := (.value (.func 208)), args := #[(.tmp 22), (.tmp 23)], argTypes := #[174, 3] }, none, false⟩])
 (.skip))))
def fr185 : FR := ⟨25, [], cc185⟩
theorem fnis185 : FnIs Tryz.prog 185 fr185 := ⟨Tryz.f185, _, [], [], Tryz.func185, rfl, by kernel_rfl, by kernel_rfl, by kernel_rfl, by kernel_rfl⟩
/-- function 186 -/
def cc186 : CC :=
 .seq (.reg [⟨some 4, .assign (.const (.int .i64 0)), none, false⟩,
   ⟨some 5, .assign (.const .nilIface), none, false⟩])
 (.seq (.reg [⟨some 6, .move (.tmp 0), none, false⟩,
   ⟨some 7, .call { callee := (.value (.func 207)), args := #[(.tmp 6)], argTypes := #[174] }, none, false⟩])
 (.seq (.reg [⟨some 8, .move (.tmp 0), none, false⟩,
   ⟨some 9, .move (.tmp 0), none, false⟩,
   ⟨some 10, .nilCheck (.tmp 9), none, false⟩,
   ⟨some 11, .fieldAddr 177 (.tmp 10) 1, none, false⟩,
   ⟨some 12, .load 175 (.tmp 11), none, false⟩,
   ⟨some 13, .move (.tmp 1), none, false⟩,
   ⟨some 14, .call { callee := (.builtin .append), args := #[(.tmp 12), (.tmp 13)], argTypes := #[175, 9] }, none, false⟩,
   ⟨some 15, .nilCheck (.tmp 8), none, false⟩,
   ⟨some 16, .fieldAddr 177 (.tmp 15) 1, none, false⟩,
   ⟨none, .store 175 (.tmp 16) (.tmp 14), none, false⟩])
 (.seq (.reg [⟨some 17, .move (.tmp 1), none, false⟩,
   ⟨some 18, .call { callee := (.builtin .len), args := #[(.tmp 17)], argTypes := #[9] }, none, false⟩,
   ⟨some 4, .assign (.tmp 18), none, false⟩,
   ⟨some 5, .assign (.const .nilIface), none, false⟩])
 (.ret))))
def fr186 : FR := ⟨19, [.tmp 4, .tmp 5], cc186⟩
theorem fnis186 : FnIs Tryz.prog 186 fr186 := ⟨Tryz.f186, _, [], [], Tryz.func186, rfl, by kernel_rfl, by kernel_rfl, by kernel_rfl, by kernel_rfl⟩
/-- function 187 -/
def cc187 : CC :=
 .seq (.reg [⟨some 2, .assign (.const (.string { data := #[] })), none, false⟩])
 (.seq (.reg [⟨some 3, .move (.tmp 0), none, false⟩,
   ⟨some 4, .nilCheck (.tmp 3), none, false⟩,
   ⟨some 5, .fieldAddr 177 (.tmp 4) 1, none, false⟩,
   ⟨some 6, .load 175 (.tmp 5), none, false⟩,
   ⟨some 8, .move (.tmp 0), none, false⟩,
   ⟨some 9, .nilCheck (.tmp 8), none, false⟩,
   ⟨some 10, .fieldAddr 177 (.tmp 9) 1, none, false⟩,
   ⟨some 11, .load 175 (.tmp 10), none, false⟩,
   ⟨some 12, .call { callee := (.builtin .len), args := #[(.tmp 11)], argTypes := #[175] }, none, false⟩,
   ⟨some 7, .call { callee := (.builtin .unsafeSliceData), args := #[(.tmp 6)], argTypes := #[175] }, none, false⟩,
   ⟨some 11, .load 175 (.tmp 10), none, true⟩,
   ⟨some 12, .call { callee := (.builtin .len), args := #[(.tmp 11)], argTypes := #[175] }, none, true⟩,
   ⟨some 13, .call { callee := (.builtin .unsafeString), args := #[(.tmp 7), (.tmp 12)], argTypes := #[191, 3] }, none, false⟩,
   ⟨some 2, .assign (.tmp 13), none, false⟩])
 (.ret))
def fr187 : FR := ⟨14, [.tmp 2], cc187⟩
theorem fnis187 : FnIs Tryz.prog 187 fr187 := ⟨Tryz.f187, _, [], [], Tryz.func187, rfl, by kernel_rfl, by kernel_rfl, by kernel_rfl, by kernel_rfl⟩
/-- function 188 -/
def cc188 : CC :=
 .seq (.reg [⟨some 2, .box 39 (.tmp 0), none, false⟩,
   ⟨some 3, .assign (.const (.bool false)), none, false⟩])
 (.seq (.reg [⟨some 4, .fieldAddr 39 (.tmp 2) 0, none, false⟩,
   ⟨some 5, .load 9 (.tmp 4), none, false⟩,
   ⟨some 6, .load 9 (.tmp 1), none, false⟩,
   ⟨some 7, .binOp .eql 9 (.tmp 5) (.tmp 6) 9, none, false⟩,
   ⟨some 3, .assign (.tmp 7), none, false⟩])
 (.ret))
def fr188 : FR := ⟨8, [.tmp 3], cc188⟩
theorem fnis188 : FnIs Tryz.prog 188 fr188 := ⟨Tryz.f188, _, [], [], Tryz.func188, rfl, by kernel_rfl, by kernel_rfl, by kernel_rfl, by kernel_rfl⟩
/-- function 189 -/
def cc189 : CC :=
 .seq (.reg [⟨some 2, .assign (.const (.bool false)), none, false⟩])
 (.seq (.seq (.reg [⟨some 3, .assign (.const (.int .i64 0)), none, false⟩])
 (.block 0
 (.loop [0, 3]
 (.seq (.seq (.reg [⟨some 5, .move (.tmp 3), none, false⟩,
   ⟨some 6, .move (.tmp 0), none, false⟩,
   ⟨some 7, .call { callee := (.builtin .len), args := #[(.tmp 6)], argTypes := #[9] }, none, false⟩,
   ⟨some 8, .binOp .lss 3 (.tmp 5) (.tmp 7) 3, none, false⟩])
 (.cond (.tmp 8)
 (.skip)
 (.exit 0)))
 (.seq (.block 1
 (.seq (.reg [⟨some 11, .move (.tmp 0), none, false⟩,
   ⟨some 12, .move (.tmp 3), none, false⟩,
   ⟨some 13, .index 9 (.tmp 11) (.tmp 12), none, false⟩,
   ⟨some 14, .binOp .geq 5 (.tmp 13) (.const (.int .u8 97)) 5, none, false⟩,
   ⟨some 15, .move (.tmp 14), none, false⟩,
   ⟨some 16, .move (.tmp 0), some (15, true), false⟩,
   ⟨some 17, .move (.tmp 3), some (15, true), false⟩,
   ⟨some 18, .index 9 (.tmp 16) (.tmp 17), some (15, true), false⟩,
   ⟨some 19, .binOp .leq 5 (.tmp 18) (.const (.int .u8 122)) 5, some (15, true), false⟩,
   ⟨some 20, .pick (.tmp 15) (.tmp 19) (.const (.bool false)), none, false⟩,
   ⟨some 21, .move (.tmp 20), none, false⟩,
   ⟨some 22, .move (.tmp 0), some (21, false), false⟩,
   ⟨some 23, .move (.tmp 3), some (21, false), false⟩,
   ⟨some 24, .index 9 (.tmp 22) (.tmp 23), some (21, false), false⟩,
   ⟨some 25, .binOp .geq 5 (.tmp 24) (.const (.int .u8 65)) 5, some (21, false), false⟩,
   ⟨some 26, .move (.tmp 25), some (21, false), false⟩,
   ⟨some 27, .move (.tmp 0), some (26, true), false⟩,
   ⟨some 28, .move (.tmp 3), some (26, true), false⟩,
   ⟨some 29, .index 9 (.tmp 27) (.tmp 28), some (26, true), false⟩,
   ⟨some 30, .binOp .leq 5 (.tmp 29) (.const (.int .u8 90)) 5, some (26, true), false⟩,
   ⟨some 31, .pick (.tmp 26) (.tmp 30) (.const (.bool false)), some (21, false), false⟩,
   ⟨some 32, .pick (.tmp 21) (.const (.bool true)) (.tmp 31), none, false⟩,
   ⟨some 4, .assign (.tmp 32), none, false⟩])
 (.seq (.reg [⟨some 33, .move (.tmp 4), none, false⟩,
   ⟨some 34, .unOp .not 4 (.tmp 33), none, false⟩,
   ⟨some 35, .move (.tmp 34), none, false⟩,
   ⟨some 36, .move (.tmp 3), some (35, true), false⟩,
   ⟨some 37, .binOp .eql 3 (.tmp 36) (.const (.int .i64 0)) 3, some (35, true), false⟩,
   ⟨some 38, .move (.tmp 37), some (35, true), false⟩,
   ⟨some 39, .move (.tmp 0), some (38, false), false⟩,
   ⟨some 40, .move (.tmp 3), some (38, false), false⟩,
   ⟨some 41, .index 9 (.tmp 39) (.tmp 40), some (38, false), false⟩,
   ⟨some 42, .binOp .lss 5 (.tmp 41) (.const (.int .u8 48)) 5, some (38, false), false⟩,
   ⟨some 43, .pick (.tmp 38) (.const (.bool true)) (.tmp 42), some (35, true), false⟩,
   ⟨some 44, .move (.tmp 43), some (35, true), false⟩,
   ⟨some 45, .move (.tmp 0), some (44, false), false⟩,
   ⟨some 46, .move (.tmp 3), some (44, false), false⟩,
   ⟨some 47, .index 9 (.tmp 45) (.tmp 46), some (44, false), false⟩,
   ⟨some 48, .binOp .gtr 5 (.tmp 47) (.const (.int .u8 57)) 5, some (44, false), false⟩,
   ⟨some 49, .pick (.tmp 44) (.const (.bool true)) (.tmp 48), some (35, true), false⟩,
   ⟨some 50, .pick (.tmp 35) (.tmp 49) (.const (.bool false)), none, false⟩])
 (.cond (.tmp 50)
 (.seq (.reg [⟨some 2, .assign (.const (.bool false)), none, false⟩])
 (.ret))
 (.skip)))))
 (.reg [⟨some 9, .move (.tmp 3), none, false⟩,
   ⟨some 10, .binOp .add 3 (.tmp 9) (.const (.int .i64 1)) 3, none, false⟩,
   ⟨some 3, .assign (.tmp 10), none, false⟩]))))))
 (.seq (.reg [⟨some 51, .move (.tmp 0), none, false⟩,
   ⟨some 52, .call { callee := (.builtin .len), args := #[(.tmp 51)], argTypes := #[9] }, none, false⟩,
   ⟨some 53, .binOp .geq 3 (.tmp 52) (.const (.int .i64 1)) 3, none, false⟩,
   ⟨some 54, .move (.tmp 53), none, false⟩,
   ⟨some 55, .move (.tmp 0), some (54, true), false⟩,
   ⟨some 56, .call { callee := (.builtin .len), args := #[(.tmp 55)], argTypes := #[9] }, some (54, true), false⟩,
   ⟨some 57, .binOp .leq 3 (.tmp 56) (.const (.int .i64 32)) 3, some (54, true), false⟩,
   ⟨some 58, .pick (.tmp 54) (.tmp 57) (.const (.bool false)), none, false⟩,
   ⟨some 2, .assign (.tmp 58), none, false⟩])
 (.ret)))
def fr189 : FR := ⟨59, [.tmp 2], cc189⟩
theorem fnis189 : FnIs Tryz.prog 189 fr189 := ⟨Tryz.f189, _, [[0, 3]], [], Tryz.func189, rfl, by kernel_rfl, by kernel_rfl, by kernel_rfl, by kernel_rfl⟩
/-- function 190 -/
def cc190 : CC :=
 .seq (.reg [⟨some 2, .assign (.const (.int .i64 0)), none, false⟩])
 (.seq (.reg [⟨some 3, .assign (.const (.int .i64 0)), none, false⟩])
 (.seq (.block 0
 (.loop [0, 3]
 (.seq (.seq (.reg [⟨some 4, .move (.tmp 0), none, false⟩,
   ⟨some 5, .call { callee := (.builtin .len), args := #[(.tmp 4)], argTypes := #[9] }, none, false⟩,
   ⟨some 6, .binOp .geq 3 (.tmp 5) (.const (.int .i64 2)) 3, none, false⟩,
   ⟨some 7, .move (.tmp 6), none, false⟩,
   ⟨some 8, .move (.tmp 0), some (7, true), false⟩,
   ⟨some 9, .move (.tmp 0), some (7, true), false⟩,
   ⟨some 10, .call { callee := (.builtin .len), args := #[(.tmp 9)], argTypes := #[9] }, some (7, true), false⟩,
   ⟨some 11, .binOp .sub 3 (.tmp 10) (.const (.int .i64 2)) 3, some (7, true), false⟩,
   ⟨some 12, .slice 9 (.tmp 8) (some (.tmp 11)) none none, some (7, true), false⟩,
   ⟨some 13, .binOp .eql 9 (.tmp 12) (.const (.string { data := #[91, 93] })) 9, some (7, true), false⟩,
   ⟨some 14, .pick (.tmp 7) (.tmp 13) (.const (.bool false)), none, false⟩])
 (.cond (.tmp 14)
 (.skip)
 (.exit 0)))
 (.block 1
 (.seq (.reg [⟨some 15, .move (.tmp 3), none, false⟩,
   ⟨some 16, .binOp .add 3 (.tmp 15) (.const (.int .i64 1)) 3, none, false⟩,
   ⟨some 3, .assign (.tmp 16), none, false⟩])
 (.reg [⟨some 17, .move (.tmp 0), none, false⟩,
   ⟨some 18, .move (.tmp 0), none, false⟩,
   ⟨some 19, .call { callee := (.builtin .len), args := #[(.tmp 18)], argTypes := #[9] }, none, false⟩,
   ⟨some 20, .binOp .sub 3 (.tmp 19) (.const (.int .i64 2)) 3, none, false⟩,
   ⟨some 21, .slice 9 (.tmp 17) none (some (.tmp 20)) none, none, false⟩,
   ⟨some 0, .assign (.tmp 21), none, false⟩]))))))
 (.seq (.reg [⟨some 22, .move (.tmp 3), none, false⟩,
   ⟨some 2, .assign (.tmp 22), none, false⟩])
 (.ret))))
def fr190 : FR := ⟨23, [.tmp 2], cc190⟩
theorem fnis190 : FnIs Tryz.prog 190 fr190 := ⟨Tryz.f190, _, [[0, 3]], [], Tryz.func190, rfl, by kernel_rfl, by kernel_rfl, by kernel_rfl, by kernel_rfl⟩
/-- function 191 -/
def cc191 : CC :=
 .seq (.reg [⟨some 2, .assign (.const (.bool false)), none, false⟩])
 (.seq (.seq (.reg [⟨some 3, .move (.tmp 0), none, false⟩])
 (.block 0
 (.seq (.seq (.reg [⟨some 5, .binOp .eql 9 (.tmp 3) (.const (.string { data := #[105, 110, 116] })) 9, none, false⟩,
   ⟨some 4, .assign (.tmp 5), none, false⟩])
 (.cond (.tmp 4)
 (.skip)
 (.seq (.reg [⟨some 6, .binOp .eql 9 (.tmp 3) (.const (.string { data := #[98, 111, 111, 108] })) 9, none, false⟩,
   ⟨some 4, .assign (.tmp 6), none, false⟩])
 (.cond (.tmp 4)
 (.skip)
 (.reg [⟨some 7, .binOp .eql 9 (.tmp 3) (.const (.string { data := #[116, 101, 120, 116] })) 9, none, false⟩,
   ⟨some 4, .assign (.tmp 7), none, false⟩])))))
 (.cond (.tmp 4)
 (.seq (.reg [⟨some 2, .assign (.const (.bool true)), none, false⟩])
 (.ret))
 (.skip)))))
 (.seq (.reg [⟨some 2, .assign (.const (.bool false)), none, false⟩])
 (.ret)))
def fr191 : FR := ⟨8, [.tmp 2], cc191⟩
theorem fnis191 : FnIs Tryz.prog 191 fr191 := ⟨Tryz.f191, _, [], [], Tryz.func191, rfl, by kernel_rfl, by kernel_rfl, by kernel_rfl, by kernel_rfl⟩
/-- function 192 -/
def cc192 : CC :=
 .seq (.reg [⟨some 2, .assign (.const (.int .i64 0)), none, false⟩])
 (.seq (.seq (.reg [⟨some 3, .assign (.const (.int .i64 0)), none, false⟩])
 (.block 0
 (.loop [0, 3]
 (.seq (.seq (.reg [⟨some 5, .move (.tmp 3), none, false⟩,
   ⟨some 6, .move (.tmp 0), none, false⟩,
   ⟨some 7, .call { callee := (.builtin .len), args := #[(.tmp 6)], argTypes := #[36] }, none, false⟩,
   ⟨some 8, .binOp .lss 3 (.tmp 5) (.tmp 7) 3, none, false⟩])
 (.cond (.tmp 8)
 (.skip)
 (.exit 0)))
 (.seq (.block 1
 (.seq (.reg [⟨some 11, .move (.tmp 0), none, false⟩,
   ⟨some 12, .move (.tmp 3), none, false⟩,
   ⟨some 13, .indexAddr 36 (.tmp 11) (.tmp 12), none, false⟩,
   ⟨some 14, .load 53 (.tmp 13), none, false⟩,
   ⟨some 15, .call { callee := (.value (.func 209)), args := #[(.tmp 14)], argTypes := #[53] }, none, false⟩,
   ⟨some 4, .assign (.tmp 15), none, false⟩])
 (.seq (.reg [⟨some 16, .move (.tmp 4), none, false⟩,
   ⟨some 17, .binOp .neq 32 (.tmp 16) (.const (.int .i64 0)) 32, none, false⟩])
 (.cond (.tmp 17)
 (.seq (.reg [⟨some 18, .move (.tmp 4), none, false⟩,
   ⟨some 2, .assign (.tmp 18), none, false⟩])
 (.ret))
 (.skip)))))
 (.reg [⟨some 9, .move (.tmp 3), none, false⟩,
   ⟨some 10, .binOp .add 3 (.tmp 9) (.const (.int .i64 1)) 3, none, false⟩,
   ⟨some 3, .assign (.tmp 10), none, false⟩]))))))
 (.seq (.reg [⟨some 2, .assign (.const (.int .i64 0)), none, false⟩])
 (.ret)))
def fr192 : FR := ⟨19, [.tmp 2], cc192⟩
theorem fnis192 : FnIs Tryz.prog 192 fr192 := ⟨Tryz.f192, _, [[0, 3]], [], Tryz.func192, rfl, by kernel_rfl, by kernel_rfl, by kernel_rfl, by kernel_rfl⟩
/-- function 193 -/
def cc193 : CC :=
 .seq (.reg [⟨some 2, .assign (.const (.string { data := #[] })), none, false⟩])
 (.seq (.reg [⟨some 3, .move (.tmp 0), none, false⟩,
   ⟨some 4, .move (.tmp 0), none, false⟩,
   ⟨some 5, .call { callee := (.builtin .len), args := #[(.tmp 4)], argTypes := #[9] }, none, false⟩,
   ⟨some 6, .move (.tmp 0), none, false⟩,
   ⟨some 7, .call { callee := (.value (.func 190)), args := #[(.tmp 6)], argTypes := #[9] }, none, false⟩,
   ⟨some 8, .binOp .mul 3 (.const (.int .i64 2)) (.tmp 7) 3, none, false⟩,
   ⟨some 9, .binOp .sub 3 (.tmp 5) (.tmp 8) 3, none, false⟩,
   ⟨some 10, .slice 9 (.tmp 3) none (some (.tmp 9)) none, none, false⟩,
   ⟨some 2, .assign (.tmp 10), none, false⟩])
 (.ret))
def fr193 : FR := ⟨11, [.tmp 2], cc193⟩
theorem fnis193 : FnIs Tryz.prog 193 fr193 := ⟨Tryz.f193, _, [], [], Tryz.func193, rfl, by kernel_rfl, by kernel_rfl, by kernel_rfl, by kernel_rfl⟩
/-- function 194 -/
def cc194 : CC :=
 .seq (.reg [⟨some 4, .assign (.const (.string { data := #[] })), none, false⟩,
   ⟨some 5, .assign (.const (.string { data := #[] })), none, false⟩,
   ⟨some 6, .assign (.const (.bool false)), none, false⟩])
 (.seq (.reg [⟨some 7, .move (.tmp 0), none, false⟩,
   ⟨some 8, .move (.tmp 1), none, false⟩,
   ⟨some 9, .call { callee := (.value (.func 210)), args := #[(.tmp 7), (.tmp 8)], argTypes := #[9, 9] }, none, false⟩,
   ⟨some 10, .extract (.tmp 9) 0, none, false⟩,
   ⟨some 11, .extract (.tmp 9) 1, none, false⟩,
   ⟨some 12, .extract (.tmp 9) 2, none, false⟩,
   ⟨some 4, .assign (.tmp 10), none, false⟩,
   ⟨some 5, .assign (.tmp 11), none, false⟩,
   ⟨some 6, .assign (.tmp 12), none, false⟩])
 (.ret))
def fr194 : FR := ⟨13, [.tmp 4, .tmp 5, .tmp 6], cc194⟩
theorem fnis194 : FnIs Tryz.prog 194 fr194 := ⟨Tryz.f194, _, [], [], Tryz.func194, rfl, by kernel_rfl, by kernel_rfl, by kernel_rfl, by kernel_rfl⟩
/-- function 195 -/
def cc195 : CC :=
 .seq (.reg [⟨some 2, .assign (.const (.int .i32 0)), none, false⟩,
   ⟨some 3, .assign (.const (.int .i64 0)), none, false⟩])
 (.seq (.reg [⟨some 13, .move (.tmp 0), none, false⟩,
   ⟨some 14, .call { callee := (.builtin .len), args := #[(.tmp 13)], argTypes := #[9] }, none, false⟩,
   ⟨some 4, .assign (.tmp 14), none, false⟩])
 (.seq (.seq (.reg [⟨some 15, .move (.tmp 4), none, false⟩,
   ⟨some 16, .binOp .lss 3 (.tmp 15) (.const (.int .i64 1)) 3, none, false⟩])
 (.cond (.tmp 16)
 (.seq (.reg [⟨some 2, .assign (.const (.int .i32 65533)), none, false⟩,
   ⟨some 3, .assign (.const (.int .i64 0)), none, false⟩])
 (.ret))
 (.skip)))
 (.seq (.reg [⟨some 17, .move (.tmp 0), none, false⟩,
   ⟨some 18, .index 9 (.tmp 17) (.const (.int .i64 0)), none, false⟩,
   ⟨some 5, .assign (.tmp 18), none, false⟩])
 (.seq (.reg [⟨some 19, .move (.tmp 5), none, false⟩,
   ⟨some 20, .indexAddr 192 (.global 1) (.tmp 19), none, false⟩,
   ⟨some 21, .load 5 (.tmp 20), none, false⟩,
   ⟨some 6, .assign (.tmp 21), none, false⟩])
 (.seq (.seq (.reg [⟨some 22, .move (.tmp 6), none, false⟩,
   ⟨some 23, .binOp .geq 5 (.tmp 22) (.const (.int .u8 240)) 5, none, false⟩])
 (.cond (.tmp 23)
 (.seq (.reg [⟨some 24, .move (.tmp 6), none, false⟩,
   ⟨some 25, .convert 5 21 (.tmp 24), none, false⟩,
   ⟨some 26, .binOp .shl 21 (.tmp 25) (.const (.int .u64 31)) 188, none, false⟩,
   ⟨some 27, .binOp .shr 21 (.tmp 26) (.const (.int .u64 31)) 188, none, false⟩,
   ⟨some 7, .assign (.tmp 27), none, false⟩])
 (.seq (.reg [⟨some 28, .move (.tmp 0), none, false⟩,
   ⟨some 29, .index 9 (.tmp 28) (.const (.int .i64 0)), none, false⟩,
   ⟨some 30, .convert 5 21 (.tmp 29), none, false⟩,
   ⟨some 31, .move (.tmp 7), none, false⟩,
   ⟨some 32, .binOp .andNot 21 (.tmp 30) (.tmp 31) 21, none, false⟩,
   ⟨some 33, .move (.tmp 7), none, false⟩,
   ⟨some 34, .binOp .and 21 (.const (.int .i32 65533)) (.tmp 33) 21, none, false⟩,
   ⟨some 35, .binOp .or 21 (.tmp 32) (.tmp 34) 21, none, false⟩,
   ⟨some 2, .assign (.tmp 35), none, false⟩,
   ⟨some 3, .assign (.const (.int .i64 1)), none, false⟩])
 (.ret)))
 (.skip)))
 (.seq (.reg [⟨some 36, .move (.tmp 6), none, false⟩,
   ⟨some 37, .binOp .and 5 (.tmp 36) (.const (.int .u8 7)) 5, none, false⟩,
   ⟨some 38, .convert 5 3 (.tmp 37), none, false⟩,
   ⟨some 8, .assign (.tmp 38), none, false⟩])
 (.seq (.reg [⟨some 39, .move (.tmp 6), none, false⟩,
   ⟨some 40, .binOp .shr 5 (.tmp 39) (.const (.int .u64 4)) 188, none, false⟩,
   ⟨some 41, .indexAddr 195 (.global 2) (.tmp 40), none, false⟩,
   ⟨some 42, .load 194 (.tmp 41), none, false⟩,
   ⟨some 9, .alloc 194, none, false⟩,
   ⟨none, .store 194 (.tmp 9) (.tmp 42), none, false⟩])
 (.seq (.seq (.reg [⟨some 43, .move (.tmp 4), none, false⟩,
   ⟨some 44, .move (.tmp 8), none, false⟩,
   ⟨some 45, .binOp .lss 3 (.tmp 43) (.tmp 44) 3, none, false⟩])
 (.cond (.tmp 45)
 (.seq (.reg [⟨some 2, .assign (.const (.int .i32 65533)), none, false⟩,
   ⟨some 3, .assign (.const (.int .i64 1)), none, false⟩])
 (.ret))
 (.skip)))
 (.seq (.reg [⟨some 46, .move (.tmp 0), none, false⟩,
   ⟨some 47, .index 9 (.tmp 46) (.const (.int .i64 1)), none, false⟩,
   ⟨some 10, .assign (.tmp 47), none, false⟩])
 (.seq (.seq (.reg [⟨some 48, .move (.tmp 10), none, false⟩,
   ⟨some 49, .fieldAddr 194 (.tmp 9) 0, none, false⟩,
   ⟨some 50, .load 5 (.tmp 49), none, false⟩,
   ⟨some 51, .binOp .lss 5 (.tmp 48) (.tmp 50) 5, none, false⟩,
   ⟨some 52, .move (.tmp 51), none, false⟩,
   ⟨some 53, .fieldAddr 194 (.tmp 9) 1, some (52, false), false⟩,
   ⟨some 54, .load 5 (.tmp 53), some (52, false), false⟩,
   ⟨some 55, .move (.tmp 10), some (52, false), false⟩,
   ⟨some 56, .binOp .lss 5 (.tmp 54) (.tmp 55) 5, some (52, false), false⟩,
   ⟨some 57, .pick (.tmp 52) (.const (.bool true)) (.tmp 56), none, false⟩])
 (.cond (.tmp 57)
 (.seq (.reg [⟨some 2, .assign (.const (.int .i32 65533)), none, false⟩,
   ⟨some 3, .assign (.const (.int .i64 1)), none, false⟩])
 (.ret))
 (.skip)))
 (.seq (.seq (.reg [⟨some 58, .move (.tmp 8), none, false⟩,
   ⟨some 59, .binOp .leq 3 (.tmp 58) (.const (.int .i64 2)) 3, none, false⟩])
 (.cond (.tmp 59)
 (.seq (.reg [⟨some 60, .move (.tmp 5), none, false⟩,
   ⟨some 61, .binOp .and 5 (.tmp 60) (.const (.int .u8 31)) 5, none, false⟩,
   ⟨some 62, .convert 5 21 (.tmp 61), none, false⟩,
   ⟨some 63, .binOp .shl 21 (.tmp 62) (.const (.int .u64 6)) 188, none, false⟩,
   ⟨some 64, .move (.tmp 10), none, false⟩,
   ⟨some 65, .binOp .and 5 (.tmp 64) (.const (.int .u8 63)) 5, none, false⟩,
   ⟨some 66, .convert 5 21 (.tmp 65), none, false⟩,
   ⟨some 67, .binOp .or 21 (.tmp 63) (.tmp 66) 21, none, false⟩,
   ⟨some 2, .assign (.tmp 67), none, false⟩,
   ⟨some 3, .assign (.const (.int .i64 2)), none, false⟩])
 (.ret))
 (.skip)))
 (.seq (.reg [⟨some 68, .move (.tmp 0), none, false⟩,
   ⟨some 69, .index 9 (.tmp 68) (.const (.int .i64 2)), none, false⟩,
   ⟨some 11, .assign (.tmp 69), none, false⟩])
 (.seq (.seq (.reg [⟨some 70, .move (.tmp 11), none, false⟩,
   ⟨some 71, .binOp .lss 5 (.tmp 70) (.const (.int .u8 128)) 5, none, false⟩,
   ⟨some 72, .move (.tmp 71), none, false⟩,
   ⟨some 73, .move (.tmp 11), some (72, false), false⟩,
   ⟨some 74, .binOp .lss 5 (.const (.int .u8 191)) (.tmp 73) 5, some (72, false), false⟩,
   ⟨some 75, .pick (.tmp 72) (.const (.bool true)) (.tmp 74), none, false⟩])
 (.cond (.tmp 75)
 (.seq (.reg [⟨some 2, .assign (.const (.int .i32 65533)), none, false⟩,
   ⟨some 3, .assign (.const (.int .i64 1)), none, false⟩])
 (.ret))
 (.skip)))
 (.seq (.seq (.reg [⟨some 76, .move (.tmp 8), none, false⟩,
   ⟨some 77, .binOp .leq 3 (.tmp 76) (.const (.int .i64 3)) 3, none, false⟩])
 (.cond (.tmp 77)
 (.seq (.reg [⟨some 78, .move (.tmp 5), none, false⟩,
   ⟨some 79, .binOp .and 5 (.tmp 78) (.const (.int .u8 15)) 5, none, false⟩,
   ⟨some 80, .convert 5 21 (.tmp 79), none, false⟩,
   ⟨some 81, .binOp .shl 21 (.tmp 80) (.const (.int .u64 12)) 188, none, false⟩,
   ⟨some 82, .move (.tmp 10), none, false⟩,
   ⟨some 83, .binOp .and 5 (.tmp 82) (.const (.int .u8 63)) 5, none, false⟩,
   ⟨some 84, .convert 5 21 (.tmp 83), none, false⟩,
   ⟨some 85, .binOp .shl 21 (.tmp 84) (.const (.int .u64 6)) 188, none, false⟩,
   ⟨some 86, .binOp .or 21 (.tmp 81) (.tmp 85) 21, none, false⟩,
   ⟨some 87, .move (.tmp 11), none, false⟩,
   ⟨some 88, .binOp .and 5 (.tmp 87) (.const (.int .u8 63)) 5, none, false⟩,
   ⟨some 89, .convert 5 21 (.tmp 88), none, false⟩,
   ⟨some 90, .binOp .or 21 (.tmp 86) (.tmp 89) 21, none, false⟩,
   ⟨some 2, .assign (.tmp 90), none, false⟩,
   ⟨some 3, .assign (.const (.int .i64 3)), none, false⟩])
 (.ret))
 (.skip)))
 (.seq (.reg [⟨some 91, .move (.tmp 0), none, false⟩,
   ⟨some 92, .index 9 (.tmp 91) (.const (.int .i64 3)), none, false⟩,
   ⟨some 12, .assign (.tmp 92), none, false⟩])
 (.seq (.seq (.reg [⟨some 93, .move (.tmp 12), none, false⟩,
   ⟨some 94, .binOp .lss 5 (.tmp 93) (.const (.int .u8 128)) 5, none, false⟩,
   ⟨some 95, .move (.tmp 94), none, false⟩,
   ⟨some 96, .move (.tmp 12), some (95, false), false⟩,
   ⟨some 97, .binOp .lss 5 (.const (.int .u8 191)) (.tmp 96) 5, some (95, false), false⟩,
   ⟨some 98, .pick (.tmp 95) (.const (.bool true)) (.tmp 97), none, false⟩])
 (.cond (.tmp 98)
 (.seq (.reg [⟨some 2, .assign (.const (.int .i32 65533)), none, false⟩,
   ⟨some 3, .assign (.const (.int .i64 1)), none, false⟩])
 (.ret))
 (.skip)))
 (.seq (.reg [⟨some 99, .move (.tmp 5), none, false⟩,
   ⟨some 100, .binOp .and 5 (.tmp 99) (.const (.int .u8 7)) 5, none, false⟩,
   ⟨some 101, .convert 5 21 (.tmp 100), none, false⟩,
   ⟨some 102, .binOp .shl 21 (.tmp 101) (.const (.int .u64 18)) 188, none, false⟩,
   ⟨some 103, .move (.tmp 10), none, false⟩,
   ⟨some 104, .binOp .and 5 (.tmp 103) (.const (.int .u8 63)) 5, none, false⟩,
   ⟨some 105, .convert 5 21 (.tmp 104), none, false⟩,
   ⟨some 106, .binOp .shl 21 (.tmp 105) (.const (.int .u64 12)) 188, none, false⟩,
   ⟨some 107, .binOp .or 21 (.tmp 102) (.tmp 106) 21, none, false⟩,
   ⟨some 108, .move (.tmp 11), none, false⟩,
   ⟨some 109, .binOp .and 5 (.tmp 108) (.const (.int .u8 63)) 5, none, false⟩,
   ⟨some 110, .convert 5 21 (.tmp 109), none, false⟩,
   ⟨some 111, .binOp .shl 21 (.tmp 110) (.const (.int .u64 6)) 188, none, false⟩,
   ⟨some 112, .binOp .or 21 (.tmp 107) (.tmp 111) 21, none, false⟩,
   ⟨some 113, .move (.tmp 12), none, false⟩,
   ⟨some 114, .binOp .and 5 (.tmp 113) (.const (.int .u8 63)) 5, none, false⟩,
   ⟨some 115, .convert 5 21 (.tmp 114), none, false⟩,
   ⟨some 116, .binOp .or 21 (.tmp 112) (.tmp 115) 21, none, false⟩,
   ⟨some 2, .assign (.tmp 116), none, false⟩,
   ⟨some 3, .assign (.const (.int .i64 4)), none, false⟩])
 (.ret))))))))))))))))))
def fr195 : FR := ⟨117, [.tmp 2, .tmp 3], cc195⟩
theorem fnis195 : FnIs Tryz.prog 195 fr195 := ⟨Tryz.f195, _, [], [], Tryz.func195, rfl, by kernel_rfl, by kernel_rfl, by kernel_rfl, by kernel_rfl⟩
/-- function 196 -/
def cc196 : CC :=
 .seq (.reg [⟨some 4, .assign (.const (.int .i64 0)), none, false⟩])
 (.seq (.reg [⟨some 5, .move (.tmp 0), none, false⟩,
   ⟨some 6, .move (.tmp 1), none, false⟩,
   ⟨some 7, .call { callee := (.value (.func 211)), args := #[(.tmp 5), (.tmp 6)], argTypes := #[9, 5] }, none, false⟩,
   ⟨some 4, .assign (.tmp 7), none, false⟩])
 (.ret))
def fr196 : FR := ⟨8, [.tmp 4], cc196⟩
theorem fnis196 : FnIs Tryz.prog 196 fr196 := ⟨Tryz.f196, _, [], [], Tryz.func196, rfl, by kernel_rfl, by kernel_rfl, by kernel_rfl, by kernel_rfl⟩
/-- function 197 -/
def cc197 : CC :=
 .seq (.reg [⟨some 2, .assign (.const (.bool false)), none, false⟩])
 (.seq (.block 0
 (.seq (.reg [⟨some 4, .move (.tmp 0), none, false⟩,
   ⟨some 5, .binOp .leq 21 (.const (.int .i32 0)) (.tmp 4) 21, none, false⟩,
   ⟨some 6, .move (.tmp 5), none, false⟩,
   ⟨some 7, .move (.tmp 0), some (6, true), false⟩,
   ⟨some 8, .binOp .lss 21 (.tmp 7) (.const (.int .i32 55296)) 21, some (6, true), false⟩,
   ⟨some 9, .pick (.tmp 6) (.tmp 8) (.const (.bool false)), none, false⟩,
   ⟨some 3, .assign (.tmp 9), none, false⟩])
 (.cond (.tmp 3)
 (.seq (.reg [⟨some 2, .assign (.const (.bool true)), none, false⟩])
 (.ret))
 (.seq (.reg [⟨some 11, .move (.tmp 0), none, false⟩,
   ⟨some 12, .binOp .lss 21 (.const (.int .i32 57343)) (.tmp 11) 21, none, false⟩,
   ⟨some 13, .move (.tmp 12), none, false⟩,
   ⟨some 14, .move (.tmp 0), some (13, true), false⟩,
   ⟨some 15, .binOp .leq 21 (.tmp 14) (.const (.int .i32 1114111)) 21, some (13, true), false⟩,
   ⟨some 16, .pick (.tmp 13) (.tmp 15) (.const (.bool false)), none, false⟩,
   ⟨some 10, .assign (.tmp 16), none, false⟩])
 (.cond (.tmp 10)
 (.seq (.reg [⟨some 2, .assign (.const (.bool true)), none, false⟩])
 (.ret))
 (.skip))))))
 (.seq (.reg [⟨some 2, .assign (.const (.bool false)), none, false⟩])
 (.ret)))
def fr197 : FR := ⟨17, [.tmp 2], cc197⟩
theorem fnis197 : FnIs Tryz.prog 197 fr197 := ⟨Tryz.f197, _, [], [], Tryz.func197, rfl, by kernel_rfl, by kernel_rfl, by kernel_rfl, by kernel_rfl⟩
/-- function 198 -/
def cc198 : CC :=
 .seq (.reg [⟨some 2, .assign (.const (.int .i64 0)), none, false⟩])
 (.seq (.reg [⟨some 3, .move (.tmp 0), none, false⟩,
   ⟨some 4, .binOp .add 3 (.tmp 3) (.const (.int .i64 16)) 3, none, false⟩,
   ⟨some 5, .binOp .quo 3 (.tmp 4) (.const (.int .i64 8)) 3, none, false⟩,
   ⟨some 2, .assign (.tmp 5), none, false⟩])
 (.ret))
def fr198 : FR := ⟨6, [.tmp 2], cc198⟩
theorem fnis198 : FnIs Tryz.prog 198 fr198 := ⟨Tryz.f198, _, [], [], Tryz.func198, rfl, by kernel_rfl, by kernel_rfl, by kernel_rfl, by kernel_rfl⟩
/-- function 200 -/
def cc200 : CC :=
 .seq (.reg [⟨some 4, .assign (.const (.string { data := #[] })), none, false⟩,
   ⟨some 5, .assign (.const (.bool false)), none, false⟩])
 (.seq (.seq (.reg [⟨some 6, .move (.tmp 0), none, false⟩,
   ⟨some 7, .move (.tmp 1), none, false⟩,
   ⟨some 8, .call { callee := (.value (.func 166)), args := #[(.tmp 6), (.tmp 7)], argTypes := #[9, 9] }, none, false⟩,
   ⟨some 9, .unOp .not 4 (.tmp 8), none, false⟩])
 (.cond (.tmp 9)
 (.seq (.reg [⟨some 10, .move (.tmp 0), none, false⟩,
   ⟨some 4, .assign (.tmp 10), none, false⟩,
   ⟨some 5, .assign (.const (.bool false)), none, false⟩])
 (.ret))
 (.skip)))
 (.seq (.reg [⟨some 11, .move (.tmp 0), none, false⟩,
   ⟨some 12, .move (.tmp 0), none, false⟩,
   ⟨some 13, .call { callee := (.builtin .len), args := #[(.tmp 12)], argTypes := #[9] }, none, false⟩,
   ⟨some 14, .move (.tmp 1), none, false⟩,
   ⟨some 15, .call { callee := (.builtin .len), args := #[(.tmp 14)], argTypes := #[9] }, none, false⟩,
   ⟨some 16, .binOp .sub 3 (.tmp 13) (.tmp 15) 3, none, false⟩,
   ⟨some 17, .slice 9 (.tmp 11) none (some (.tmp 16)) none, none, false⟩,
   ⟨some 4, .assign (.tmp 17), none, false⟩,
   ⟨some 5, .assign (.const (.bool true)), none, false⟩])
 (.ret)))
def fr200 : FR := ⟨18, [.tmp 4, .tmp 5], cc200⟩
theorem fnis200 : FnIs Tryz.prog 200 fr200 := ⟨Tryz.f200, _, [], [], Tryz.func200, rfl, by kernel_rfl, by kernel_rfl, by kernel_rfl, by kernel_rfl⟩
/-- function 201 -/
def cc201 : CC :=
 .seq (.reg [⟨some 4, .assign (.const (.bool false)), none, false⟩])
 (.seq (.reg [⟨some 5, .move (.tmp 0), none, false⟩,
   ⟨some 6, .move (.tmp 1), none, false⟩,
   ⟨some 7, .call { callee := (.value (.func 212)), args := #[(.tmp 5), (.tmp 6)], argTypes := #[36, 172] }, none, false⟩,
   ⟨some 8, .binOp .geq 3 (.tmp 7) (.const (.int .i64 0)) 3, none, false⟩,
   ⟨some 4, .assign (.tmp 8), none, false⟩])
 (.ret))
def fr201 : FR := ⟨9, [.tmp 4], cc201⟩
theorem fnis201 : FnIs Tryz.prog 201 fr201 := ⟨Tryz.f201, _, [], [], Tryz.func201, rfl, by kernel_rfl, by kernel_rfl, by kernel_rfl, by kernel_rfl⟩
/-- function 202 -/
def cc202 : CC :=
 .seq (.reg [⟨some 2, .box 53 (.tmp 0), none, false⟩,
   ⟨some 3, .assign (.const (.bool false)), none, false⟩])
 (.seq (.reg [⟨some 4, .load 172 (.tmp 1), none, false⟩,
   ⟨some 5, .load 53 (.tmp 2), none, false⟩,
   ⟨some 6, .call { callee := (.value (.tmp 4)), args := #[(.tmp 5)], argTypes := #[53] }, none, false⟩,
   ⟨some 7, .unOp .not 4 (.tmp 6), none, false⟩,
   ⟨some 3, .assign (.tmp 7), none, false⟩])
 (.ret))
def fr202 : FR := ⟨8, [.tmp 3], cc202⟩
theorem fnis202 : FnIs Tryz.prog 202 fr202 := ⟨Tryz.f202, _, [], [], Tryz.func202, rfl, by kernel_rfl, by kernel_rfl, by kernel_rfl, by kernel_rfl⟩
/-- function 203 -/
def cc203 : CC :=
 .seq (.reg [⟨some 2, .assign (.const (.bool false)), none, false⟩,
   ⟨some 3, .assign (.const (.bool false)), none, false⟩,
   ⟨some 4, .assign (.const (.bool false)), none, false⟩])
 (.seq (.reg [⟨some 6, .move (.tmp 0), none, false⟩,
   ⟨some 7, .call { callee := (.value (.func 213)), args := #[(.tmp 6)], argTypes := #[9] }, none, false⟩,
   ⟨some 5, .assign (.tmp 7), none, false⟩])
 (.seq (.seq (.reg [⟨some 8, .move (.tmp 5), none, false⟩,
   ⟨some 9, .binOp .lss 3 (.tmp 8) (.const (.int .i64 0)) 3, none, false⟩])
 (.cond (.tmp 9)
 (.seq (.reg [⟨some 2, .assign (.const (.bool false)), none, false⟩,
   ⟨some 3, .assign (.const (.bool false)), none, false⟩,
   ⟨some 4, .assign (.const (.bool false)), none, false⟩])
 (.ret))
 (.skip)))
 (.seq (.reg [⟨some 10, .move (.tmp 5), none, false⟩,
   ⟨some 11, .indexAddr 199 (.global 4) (.tmp 10), none, false⟩,
   ⟨some 12, .fieldAddr 198 (.tmp 11) 1, none, false⟩,
   ⟨some 13, .load 4 (.tmp 12), none, false⟩,
   ⟨some 14, .move (.tmp 5), none, false⟩,
   ⟨some 15, .indexAddr 199 (.global 4) (.tmp 14), none, false⟩,
   ⟨some 16, .fieldAddr 198 (.tmp 15) 2, none, false⟩,
   ⟨some 17, .load 4 (.tmp 16), none, false⟩,
   ⟨some 2, .assign (.tmp 13), none, false⟩,
   ⟨some 3, .assign (.tmp 17), none, false⟩,
   ⟨some 4, .assign (.const (.bool true)), none, false⟩])
 (.ret))))
def fr203 : FR := ⟨18, [.tmp 2, .tmp 3, .tmp 4], cc203⟩
theorem fnis203 : FnIs Tryz.prog 203 fr203 := ⟨Tryz.f203, _, [], [], Tryz.func203, rfl, by kernel_rfl, by kernel_rfl, by kernel_rfl, by kernel_rfl⟩
/-- function 204 -/
def cc204 : CC :=
 .seq (.reg [⟨some 4, .assign (.const (.bool false)), none, false⟩])
 (.seq (.seq (.reg [⟨some 8, .move (.tmp 0), none, false⟩])
 (.block 0
 (.seq (.reg [⟨some 10, .binOp .eql 9 (.tmp 8) (.const (.string { data := #[119, 111, 114, 100] })) 9, none, false⟩,
   ⟨some 9, .assign (.tmp 10), none, false⟩])
 (.cond (.tmp 9)
 (.seq (.reg [⟨some 11, .move (.tmp 1), none, false⟩,
   ⟨some 12, .call { callee := (.builtin .len), args := #[(.tmp 11)], argTypes := #[9] }, none, false⟩,
   ⟨some 13, .binOp .leq 3 (.tmp 12) (.const (.int .i64 64)) 3, none, false⟩,
   ⟨some 14, .move (.tmp 13), none, false⟩,
   ⟨some 15, .move (.tmp 1), some (14, true), false⟩,
   ⟨some 16, .call { callee := (.value (.func 214)), args := #[(.tmp 15)], argTypes := #[9] }, some (14, true), false⟩,
   ⟨some 17, .pick (.tmp 14) (.tmp 16) (.const (.bool false)), none, false⟩,
   ⟨some 18, .move (.tmp 17), none, false⟩,
   ⟨some 19, .move (.tmp 1), some (18, true), false⟩,
   ⟨some 20, .call { callee := (.value (.func 215)), args := #[(.tmp 19), (.const (.string { data := #[10] }))], argTypes := #[9, 9] }, some (18, true), false⟩,
   ⟨some 21, .unOp .not 4 (.tmp 20), some (18, true), false⟩,
   ⟨some 22, .pick (.tmp 18) (.tmp 21) (.const (.bool false)), none, false⟩,
   ⟨some 4, .assign (.tmp 22), none, false⟩])
 (.ret))
 (.seq (.reg [⟨some 24, .binOp .eql 9 (.tmp 8) (.const (.string { data := #[110, 101, 119] })) 9, none, false⟩,
   ⟨some 23, .assign (.tmp 24), none, false⟩])
 (.cond (.tmp 23)
 (.seq (.reg [⟨some 25, .move (.tmp 1), none, false⟩,
   ⟨some 26, .call { callee := (.value (.func 54)), args := #[(.tmp 25)], argTypes := #[9] }, none, false⟩,
   ⟨some 4, .assign (.tmp 26), none, false⟩])
 (.ret))
 (.seq (.seq (.reg [⟨some 28, .binOp .eql 9 (.tmp 8) (.const (.string { data := #[105, 115] })) 9, none, false⟩,
   ⟨some 27, .assign (.tmp 28), none, false⟩])
 (.cond (.tmp 27)
 (.skip)
 (.reg [⟨some 29, .binOp .eql 9 (.tmp 8) (.const (.string { data := #[99, 97, 115, 116] })) 9, none, false⟩,
   ⟨some 27, .assign (.tmp 29), none, false⟩])))
 (.cond (.tmp 27)
 (.seq (.reg [⟨some 30, .move (.tmp 1), none, false⟩,
   ⟨some 31, .call { callee := (.value (.func 22)), args := #[(.tmp 30)], argTypes := #[9] }, none, false⟩,
   ⟨some 32, .move (.tmp 31), none, false⟩,
   ⟨some 33, .move (.tmp 1), some (32, true), false⟩,
   ⟨some 34, .call { callee := (.value (.func 23)), args := #[(.tmp 33)], argTypes := #[9] }, some (32, true), false⟩,
   ⟨some 35, .unOp .not 4 (.tmp 34), some (32, true), false⟩,
   ⟨some 36, .pick (.tmp 32) (.tmp 35) (.const (.bool false)), none, false⟩,
   ⟨some 4, .assign (.tmp 36), none, false⟩])
 (.ret))
 (.seq (.reg [⟨some 38, .binOp .eql 9 (.tmp 8) (.const (.string { data := #[97, 114, 114, 97, 121] })) 9, none, false⟩,
   ⟨some 37, .assign (.tmp 38), none, false⟩])
 (.cond (.tmp 37)
 (.seq (.reg [⟨some 39, .move (.tmp 1), none, false⟩,
   ⟨some 40, .call { callee := (.value (.func 22)), args := #[(.tmp 39)], argTypes := #[9] }, none, false⟩,
   ⟨some 41, .move (.tmp 40), none, false⟩,
   ⟨some 42, .move (.tmp 1), some (41, true), false⟩,
   ⟨some 43, .call { callee := (.value (.func 216)), args := #[(.tmp 42)], argTypes := #[9] }, some (41, true), false⟩,
   ⟨some 44, .binOp .lss 3 (.tmp 43) (.const (.int .i64 3)) 3, some (41, true), false⟩,
   ⟨some 45, .pick (.tmp 41) (.tmp 44) (.const (.bool false)), none, false⟩,
   ⟨some 4, .assign (.tmp 45), none, false⟩])
 (.ret))
 (.skip)))))))))))
 (.seq (.reg [⟨some 47, .move (.tmp 1), none, false⟩,
   ⟨some 48, .call { callee := (.value (.func 158)), args := #[(.tmp 47)], argTypes := #[9] }, none, false⟩,
   ⟨some 46, .move (.tmp 48), none, false⟩,
   ⟨some 49, .extract (.tmp 46) 0, none, false⟩,
   ⟨some 50, .extract (.tmp 46) 1, none, false⟩,
   ⟨some 51, .extract (.tmp 46) 2, none, false⟩,
   ⟨some 5, .assign (.tmp 49), none, false⟩,
   ⟨some 6, .assign (.tmp 50), none, false⟩,
   ⟨some 7, .assign (.tmp 51), none, false⟩])
 (.seq (.reg [⟨some 52, .move (.tmp 7), none, false⟩,
   ⟨some 53, .binOp .eql 32 (.tmp 52) (.const (.int .i64 0)) 32, none, false⟩,
   ⟨some 4, .assign (.tmp 53), none, false⟩])
 (.ret))))
def fr204 : FR := ⟨54, [.tmp 4], cc204⟩
theorem fnis204 : FnIs Tryz.prog 204 fr204 := ⟨Tryz.f204, _, [], [], Tryz.func204, rfl, by kernel_rfl, by kernel_rfl, by kernel_rfl, by kernel_rfl⟩
/-- function 205 -/
def cc205 : CC :=
 .seq (.reg [⟨some 4, .assign (.const (.bool false)), none, false⟩])
 (.seq (.reg [⟨some 5, .move (.tmp 0), none, false⟩,
   ⟨some 6, .move (.tmp 1), none, false⟩,
   ⟨some 7, .call { callee := (.value (.func 217)), args := #[(.tmp 5), (.tmp 6)], argTypes := #[37, 169] }, none, false⟩,
   ⟨some 8, .binOp .geq 3 (.tmp 7) (.const (.int .i64 0)) 3, none, false⟩,
   ⟨some 4, .assign (.tmp 8), none, false⟩])
 (.ret))
def fr205 : FR := ⟨9, [.tmp 4], cc205⟩
theorem fnis205 : FnIs Tryz.prog 205 fr205 := ⟨Tryz.f205, _, [], [], Tryz.func205, rfl, by kernel_rfl, by kernel_rfl, by kernel_rfl, by kernel_rfl⟩
/-- function 206 -/
def cc206 : CC :=
 .seq (.reg [⟨some 2, .box 140 (.tmp 0), none, false⟩,
   ⟨some 3, .assign (.const (.bool false)), none, false⟩])
 (.seq (.reg [⟨some 4, .load 169 (.tmp 1), none, false⟩,
   ⟨some 5, .load 140 (.tmp 2), none, false⟩,
   ⟨some 6, .call { callee := (.value (.tmp 4)), args := #[(.tmp 5)], argTypes := #[140] }, none, false⟩,
   ⟨some 7, .unOp .not 4 (.tmp 6), none, false⟩,
   ⟨some 3, .assign (.tmp 7), none, false⟩])
 (.ret))
def fr206 : FR := ⟨8, [.tmp 3], cc206⟩
theorem fnis206 : FnIs Tryz.prog 206 fr206 := ⟨Tryz.f206, _, [], [], Tryz.func206, rfl, by kernel_rfl, by kernel_rfl, by kernel_rfl, by kernel_rfl⟩
/-- function 208 -/
def cc208 : CC :=
 .seq (.reg [⟨some 5, .move (.tmp 0), none, false⟩,
   ⟨some 6, .nilCheck (.tmp 5), none, false⟩,
   ⟨some 7, .fieldAddr 177 (.tmp 6) 1, none, false⟩,
   ⟨some 8, .load 175 (.tmp 7), none, false⟩,
   ⟨some 11, .move (.tmp 1), none, false⟩,
   ⟨some 14, .move (.tmp 0), none, false⟩,
   ⟨some 15, .nilCheck (.tmp 14), none, false⟩,
   ⟨some 16, .fieldAddr 177 (.tmp 15) 1, none, false⟩,
   ⟨some 17, .load 175 (.tmp 16), none, false⟩,
   ⟨some 18, .call { callee := (.builtin .len), args := #[(.tmp 17)], argTypes := #[175] }, none, false⟩,
   ⟨some 9, .call { callee := (.builtin .cap), args := #[(.tmp 8)], argTypes := #[175] }, none, false⟩,
   ⟨some 17, .load 175 (.tmp 16), none, true⟩,
   ⟨some 18, .call { callee := (.builtin .len), args := #[(.tmp 17)], argTypes := #[175] }, none, true⟩,
   ⟨some 10, .binOp .mul 3 (.const (.int .i64 2)) (.tmp 9) 3, none, false⟩,
   ⟨some 12, .binOp .add 3 (.tmp 10) (.tmp 11) 3, none, false⟩,
   ⟨some 13, .call { callee := (.value (.func 219)), args := #[(.tmp 12)], argTypes := #[3] }, none, false⟩,
   ⟨some 17, .load 175 (.tmp 16), none, true⟩,
   ⟨some 18, .call { callee := (.builtin .len), args := #[(.tmp 17)], argTypes := #[175] }, none, true⟩,
   ⟨some 19, .slice 175 (.tmp 13) none (some (.tmp 18)) none, none, false⟩,
   ⟨some 4, .assign (.tmp 19), none, false⟩])
 (.seq (.reg [⟨some 20, .move (.tmp 4), none, false⟩,
   ⟨some 21, .move (.tmp 0), none, false⟩,
   ⟨some 22, .nilCheck (.tmp 21), none, false⟩,
   ⟨some 23, .fieldAddr 177 (.tmp 22) 1, none, false⟩,
   ⟨some 24, .load 175 (.tmp 23), none, false⟩,
   ⟨some 25, .call { callee := (.builtin .copy), args := #[(.tmp 20), (.tmp 24)], argTypes := #[175, 175] }, none, false⟩])
 (.reg [⟨some 26, .move (.tmp 0), none, false⟩,
   ⟨some 27, .move (.tmp 4), none, false⟩,
   ⟨some 28, .nilCheck (.tmp 26), none, false⟩,
   ⟨some 29, .fieldAddr 177 (.tmp 28) 1, none, false⟩,
   ⟨none, .store 175 (.tmp 29) (.tmp 27), none, false⟩]))
def fr208 : FR := ⟨30, [], cc208⟩
theorem fnis208 : FnIs Tryz.prog 208 fr208 := ⟨Tryz.f208, _, [], [], Tryz.func208, rfl, by kernel_rfl, by kernel_rfl, by kernel_rfl, by kernel_rfl⟩
/-- function 209 -/
def cc209 : CC :=
 .seq (.reg [⟨some 1, .box 53 (.tmp 0), none, false⟩,
   ⟨some 2, .assign (.const (.int .i64 0)), none, false⟩])
 (.seq (.reg [⟨some 9, .fieldAddr 53 (.tmp 1) 0, none, false⟩,
   ⟨some 10, .load 9 (.tmp 9), none, false⟩,
   ⟨some 11, .call { callee := (.value (.func 220)), args := #[(.tmp 10)], argTypes := #[9] }, none, false⟩,
   ⟨some 3, .assign (.tmp 11), none, false⟩])
 (.seq (.seq (.reg [⟨some 12, .move (.tmp 3), none, false⟩,
   ⟨some 13, .binOp .lss 3 (.tmp 12) (.const (.int .i64 0)) 3, none, false⟩])
 (.cond (.tmp 13)
 (.seq (.reg [⟨some 2, .assign (.const (.int .i64 40)), none, false⟩])
 (.ret))
 (.skip)))
 (.seq (.reg [⟨some 14, .move (.tmp 3), none, false⟩,
   ⟨some 15, .binOp .eql 3 (.tmp 14) (.const (.int .i64 1)) 3, none, false⟩,
   ⟨some 16, .move (.tmp 15), none, false⟩,
   ⟨some 17, .fieldAddr 53 (.tmp 1) 1, some (16, false), false⟩,
   ⟨some 18, .load 2 (.tmp 17), some (16, false), false⟩,
   ⟨some 19, .binOp .eql 2 (.tmp 18) (.const (.int .i64 0)) 2, some (16, false), false⟩,
   ⟨some 20, .pick (.tmp 16) (.const (.bool true)) (.tmp 19), none, false⟩,
   ⟨some 21, .move (.tmp 20), none, false⟩,
   ⟨some 22, .move (.tmp 3), some (21, true), false⟩,
   ⟨some 23, .binOp .eql 3 (.tmp 22) (.const (.int .i64 2)) 3, some (21, true), false⟩,
   ⟨some 24, .move (.tmp 23), some (21, true), false⟩,
   ⟨some 25, .fieldAddr 53 (.tmp 1) 2, some (24, false), false⟩,
   ⟨some 26, .load 9 (.tmp 25), some (24, false), false⟩,
   ⟨some 27, .binOp .eql 9 (.tmp 26) (.const (.string { data := #[] })) 9, some (24, false), false⟩,
   ⟨some 28, .pick (.tmp 24) (.const (.bool true)) (.tmp 27), some (21, true), false⟩,
   ⟨some 29, .pick (.tmp 21) (.tmp 28) (.const (.bool false)), none, false⟩,
   ⟨some 4, .assign (.tmp 29), none, false⟩])
 (.seq (.seq (.reg [⟨some 30, .move (.tmp 3), none, false⟩,
   ⟨some 31, .binOp .eql 3 (.tmp 30) (.const (.int .i64 2)) 3, none, false⟩])
 (.cond (.tmp 31)
 (.seq (.reg [⟨some 32, .fieldAddr 53 (.tmp 1) 0, none, false⟩,
   ⟨some 33, .load 9 (.tmp 32), none, false⟩])
 (.block 0
 (.seq (.reg [⟨some 46, .binOp .eql 9 (.tmp 33) (.const (.string { data := #[119, 111, 114, 100] })) 9, none, false⟩,
   ⟨some 45, .assign (.tmp 46), none, false⟩])
 (.cond (.tmp 45)
 (.seq (.reg [⟨some 47, .move (.tmp 4), none, false⟩,
   ⟨some 48, .move (.tmp 47), none, false⟩,
   ⟨some 49, .fieldAddr 53 (.tmp 1) 2, some (48, true), false⟩,
   ⟨some 50, .load 9 (.tmp 49), some (48, true), false⟩,
   ⟨some 51, .call { callee := (.builtin .len), args := #[(.tmp 50)], argTypes := #[9] }, some (48, true), false⟩,
   ⟨some 52, .binOp .leq 3 (.tmp 51) (.const (.int .i64 64)) 3, some (48, true), false⟩,
   ⟨some 53, .pick (.tmp 48) (.tmp 52) (.const (.bool false)), none, false⟩,
   ⟨some 54, .move (.tmp 53), none, false⟩,
   ⟨some 55, .fieldAddr 53 (.tmp 1) 2, some (54, true), false⟩,
   ⟨some 56, .load 9 (.tmp 55), some (54, true), false⟩,
   ⟨some 57, .call { callee := (.value (.func 221)), args := #[(.tmp 56)], argTypes := #[9] }, some (54, true), false⟩,
   ⟨some 58, .pick (.tmp 54) (.tmp 57) (.const (.bool false)), none, false⟩,
   ⟨some 4, .assign (.tmp 58), none, false⟩])
 (.seq (.reg [⟨some 5, .assign (.const (.int .i64 0)), none, false⟩])
 (.block 1
 (.loop [1, 4, 5]
 (.seq (.seq (.reg [⟨some 59, .move (.tmp 5), none, false⟩,
   ⟨some 60, .fieldAddr 53 (.tmp 1) 2, none, false⟩,
   ⟨some 61, .load 9 (.tmp 60), none, false⟩,
   ⟨some 62, .call { callee := (.builtin .len), args := #[(.tmp 61)], argTypes := #[9] }, none, false⟩,
   ⟨some 63, .binOp .lss 3 (.tmp 59) (.tmp 62) 3, none, false⟩])
 (.cond (.tmp 63)
 (.skip)
 (.exit 1)))
 (.seq (.block 2
 (.reg [⟨some 66, .move (.tmp 4), none, false⟩,
   ⟨some 67, .move (.tmp 66), none, false⟩,
   ⟨some 68, .fieldAddr 53 (.tmp 1) 2, some (67, true), false⟩,
   ⟨some 69, .load 9 (.tmp 68), some (67, true), false⟩,
   ⟨some 70, .move (.tmp 5), some (67, true), false⟩,
   ⟨some 71, .index 9 (.tmp 69) (.tmp 70), some (67, true), false⟩,
   ⟨some 72, .binOp .neq 5 (.tmp 71) (.const (.int .u8 10)) 5, some (67, true), false⟩,
   ⟨some 73, .pick (.tmp 67) (.tmp 72) (.const (.bool false)), none, false⟩,
   ⟨some 4, .assign (.tmp 73), none, false⟩]))
 (.reg [⟨some 64, .move (.tmp 5), none, false⟩,
   ⟨some 65, .binOp .add 3 (.tmp 64) (.const (.int .i64 1)) 3, none, false⟩,
   ⟨some 5, .assign (.tmp 65), none, false⟩])))))))
 (.seq (.reg [⟨some 75, .binOp .eql 9 (.tmp 33) (.const (.string { data := #[110, 101, 119] })) 9, none, false⟩,
   ⟨some 74, .assign (.tmp 75), none, false⟩])
 (.cond (.tmp 74)
 (.reg [⟨some 76, .move (.tmp 4), none, false⟩,
   ⟨some 77, .move (.tmp 76), none, false⟩,
   ⟨some 78, .fieldAddr 53 (.tmp 1) 2, some (77, true), false⟩,
   ⟨some 79, .load 9 (.tmp 78), some (77, true), false⟩,
   ⟨some 80, .call { callee := (.value (.func 142)), args := #[(.tmp 79)], argTypes := #[9] }, some (77, true), false⟩,
   ⟨some 81, .pick (.tmp 77) (.tmp 80) (.const (.bool false)), none, false⟩,
   ⟨some 4, .assign (.tmp 81), none, false⟩])
 (.seq (.seq (.reg [⟨some 83, .binOp .eql 9 (.tmp 33) (.const (.string { data := #[105, 115] })) 9, none, false⟩,
   ⟨some 82, .assign (.tmp 83), none, false⟩])
 (.cond (.tmp 82)
 (.skip)
 (.reg [⟨some 84, .binOp .eql 9 (.tmp 33) (.const (.string { data := #[99, 97, 115, 116] })) 9, none, false⟩,
   ⟨some 82, .assign (.tmp 84), none, false⟩])))
 (.cond (.tmp 82)
 (.reg [⟨some 85, .move (.tmp 4), none, false⟩,
   ⟨some 86, .move (.tmp 85), none, false⟩,
   ⟨some 87, .fieldAddr 53 (.tmp 1) 2, some (86, true), false⟩,
   ⟨some 88, .load 9 (.tmp 87), some (86, true), false⟩,
   ⟨some 89, .call { callee := (.value (.func 144)), args := #[(.tmp 88)], argTypes := #[9] }, some (86, true), false⟩,
   ⟨some 90, .pick (.tmp 86) (.tmp 89) (.const (.bool false)), none, false⟩,
   ⟨some 91, .move (.tmp 90), none, false⟩,
   ⟨some 92, .fieldAddr 53 (.tmp 1) 2, some (91, true), false⟩,
   ⟨some 93, .load 9 (.tmp 92), some (91, true), false⟩,
   ⟨some 94, .call { callee := (.value (.func 191)), args := #[(.tmp 93)], argTypes := #[9] }, some (91, true), false⟩,
   ⟨some 95, .unOp .not 4 (.tmp 94), some (91, true), false⟩,
   ⟨some 96, .pick (.tmp 91) (.tmp 95) (.const (.bool false)), none, false⟩,
   ⟨some 4, .assign (.tmp 96), none, false⟩])
 (.seq (.reg [⟨some 98, .binOp .eql 9 (.tmp 33) (.const (.string { data := #[97, 114, 114, 97, 121] })) 9, none, false⟩,
   ⟨some 97, .assign (.tmp 98), none, false⟩])
 (.cond (.tmp 97)
 (.reg [⟨some 99, .move (.tmp 4), none, false⟩,
   ⟨some 100, .move (.tmp 99), none, false⟩,
   ⟨some 101, .fieldAddr 53 (.tmp 1) 2, some (100, true), false⟩,
   ⟨some 102, .load 9 (.tmp 101), some (100, true), false⟩,
   ⟨some 103, .call { callee := (.value (.func 144)), args := #[(.tmp 102)], argTypes := #[9] }, some (100, true), false⟩,
   ⟨some 104, .pick (.tmp 100) (.tmp 103) (.const (.bool false)), none, false⟩,
   ⟨some 105, .move (.tmp 104), none, false⟩,
   ⟨some 106, .fieldAddr 53 (.tmp 1) 2, some (105, true), false⟩,
   ⟨some 107, .load 9 (.tmp 106), some (105, true), false⟩,
   ⟨some 108, .call { callee := (.value (.func 190)), args := #[(.tmp 107)], argTypes := #[9] }, some (105, true), false⟩,
   ⟨some 109, .binOp .lss 3 (.tmp 108) (.const (.int .i64 3)) 3, some (105, true), false⟩,
   ⟨some 110, .pick (.tmp 105) (.tmp 109) (.const (.bool false)), none, false⟩,
   ⟨some 4, .assign (.tmp 110), none, false⟩])
 (.seq (.reg [⟨some 35, .fieldAddr 53 (.tmp 1) 2, none, false⟩,
   ⟨some 36, .load 9 (.tmp 35), none, false⟩,
   ⟨some 37, .call { callee := (.value (.func 222)), args := #[(.tmp 36)], argTypes := #[9] }, none, false⟩,
   ⟨some 34, .move (.tmp 37), none, false⟩,
   ⟨some 38, .extract (.tmp 34) 0, none, false⟩,
   ⟨some 39, .extract (.tmp 34) 1, none, false⟩,
   ⟨some 40, .extract (.tmp 34) 2, none, false⟩,
   ⟨some 6, .assign (.tmp 38), none, false⟩,
   ⟨some 7, .assign (.tmp 39), none, false⟩,
   ⟨some 8, .assign (.tmp 40), none, false⟩])
 (.reg [⟨some 41, .move (.tmp 4), none, false⟩,
   ⟨some 42, .move (.tmp 41), none, false⟩,
   ⟨some 43, .move (.tmp 8), some (42, true), false⟩,
   ⟨some 44, .pick (.tmp 42) (.tmp 43) (.const (.bool false)), none, false⟩,
   ⟨some 4, .assign (.tmp 44), none, false⟩]))))))))))))
 (.skip)))
 (.seq (.seq (.reg [⟨some 111, .move (.tmp 4), none, false⟩,
   ⟨some 112, .unOp .not 4 (.tmp 111), none, false⟩])
 (.cond (.tmp 112)
 (.seq (.reg [⟨some 2, .assign (.const (.int .i64 41)), none, false⟩])
 (.ret))
 (.skip)))
 (.seq (.reg [⟨some 2, .assign (.const (.int .i64 0)), none, false⟩])
 (.ret)))))))
def fr209 : FR := ⟨113, [.tmp 2], cc209⟩
theorem fnis209 : FnIs Tryz.prog 209 fr209 := ⟨Tryz.f209, _, [[1, 4, 5]], [], Tryz.func209, rfl, by kernel_rfl, by kernel_rfl, by kernel_rfl, by kernel_rfl⟩
/-- function 210 -/
def cc210 : CC :=
 .seq (.reg [⟨some 4, .assign (.const (.string { data := #[] })), none, false⟩,
   ⟨some 5, .assign (.const (.string { data := #[] })), none, false⟩,
   ⟨some 6, .assign (.const (.bool false)), none, false⟩])
 (.seq (.seq (.reg [⟨some 8, .move (.tmp 0), none, false⟩,
   ⟨some 9, .move (.tmp 1), none, false⟩,
   ⟨some 10, .call { callee := (.value (.func 223)), args := #[(.tmp 8), (.tmp 9)], argTypes := #[9, 9] }, none, false⟩,
   ⟨some 7, .assign (.tmp 10), none, false⟩])
 (.seq (.reg [⟨some 11, .move (.tmp 7), none, false⟩,
   ⟨some 12, .binOp .geq 3 (.tmp 11) (.const (.int .i64 0)) 3, none, false⟩])
 (.cond (.tmp 12)
 (.seq (.reg [⟨some 13, .move (.tmp 0), none, false⟩,
   ⟨some 14, .move (.tmp 7), none, false⟩,
   ⟨some 15, .slice 9 (.tmp 13) none (some (.tmp 14)) none, none, false⟩,
   ⟨some 16, .move (.tmp 0), none, false⟩,
   ⟨some 17, .move (.tmp 7), none, false⟩,
   ⟨some 18, .move (.tmp 1), none, false⟩,
   ⟨some 19, .call { callee := (.builtin .len), args := #[(.tmp 18)], argTypes := #[9] }, none, false⟩,
   ⟨some 20, .binOp .add 3 (.tmp 17) (.tmp 19) 3, none, false⟩,
   ⟨some 21, .slice 9 (.tmp 16) (some (.tmp 20)) none none, none, false⟩,
   ⟨some 4, .assign (.tmp 15), none, false⟩,
   ⟨some 5, .assign (.tmp 21), none, false⟩,
   ⟨some 6, .assign (.const (.bool true)), none, false⟩])
 (.ret))
 (.skip))))
 (.seq (.reg [⟨some 22, .move (.tmp 0), none, false⟩,
   ⟨some 4, .assign (.tmp 22), none, false⟩,
   ⟨some 5, .assign (.const (.string { data := #[] })), none, false⟩,
   ⟨some 6, .assign (.const (.bool false)), none, false⟩])
 (.ret)))
def fr210 : FR := ⟨23, [.tmp 4, .tmp 5, .tmp 6], cc210⟩
theorem fnis210 : FnIs Tryz.prog 210 fr210 := ⟨Tryz.f210, _, [], [], Tryz.func210, rfl, by kernel_rfl, by kernel_rfl, by kernel_rfl, by kernel_rfl⟩
/-- function 211 -/
def cc211 : CC :=
 .seq (.reg [⟨some 4, .assign (.const (.int .i64 0)), none, false⟩])
 (.seq (.reg [⟨some 5, .move (.tmp 0), none, false⟩,
   ⟨some 6, .move (.tmp 1), none, false⟩,
   ⟨some 7, .call { callee := (.value (.func 224)), args := #[(.tmp 5), (.tmp 6)], argTypes := #[9, 5] }, none, false⟩,
   ⟨some 4, .assign (.tmp 7), none, false⟩])
 (.ret))
def fr211 : FR := ⟨8, [.tmp 4], cc211⟩
theorem fnis211 : FnIs Tryz.prog 211 fr211 := ⟨Tryz.f211, _, [], [], Tryz.func211, rfl, by kernel_rfl, by kernel_rfl, by kernel_rfl, by kernel_rfl⟩
/-- function 212 -/
def cc212 : CC :=
 .seq (.reg [⟨some 4, .assign (.const (.int .i64 0)), none, false⟩])
 (.seq (.seq (.reg [⟨some 6, .move (.tmp 0), none, false⟩,
   ⟨some 7, .call { callee := (.builtin .len), args := #[(.tmp 6)], argTypes := #[36] }, none, false⟩,
   ⟨some 8, .move (.const (.int .i64 0)), none, false⟩])
 (.block 0
 (.loop [0, 1, 7, 8]
 (.seq (.reg [⟨some 9, .binOp .lss 3 (.tmp 8) (.tmp 7) 3, none, false⟩])
 (.seq (.cond (.tmp 9)
 (.skip)
 (.exit 0))
 (.seq (.block 1
 (.seq (.reg [⟨some 10, .move (.tmp 8), none, false⟩,
   ⟨some 5, .assign (.tmp 10), none, false⟩])
 (.seq (.reg [⟨some 11, .move (.tmp 1), none, false⟩,
   ⟨some 12, .move (.tmp 0), none, false⟩,
   ⟨some 13, .move (.tmp 5), none, false⟩,
   ⟨some 14, .indexAddr 36 (.tmp 12) (.tmp 13), none, false⟩,
   ⟨some 15, .load 53 (.tmp 14), none, false⟩,
   ⟨some 16, .call { callee := (.value (.tmp 11)), args := #[(.tmp 15)], argTypes := #[53] }, none, false⟩])
 (.cond (.tmp 16)
 (.seq (.reg [⟨some 17, .move (.tmp 5), none, false⟩,
   ⟨some 4, .assign (.tmp 17), none, false⟩])
 (.ret))
 (.skip)))))
 (.reg [⟨some 18, .binOp .add 3 (.tmp 8) (.const (.int .i64 1)) 3, none, false⟩,
   ⟨some 8, .move (.tmp 18), none, false⟩])))))))
 (.seq (.reg [⟨some 4, .assign (.const (.int .i64 (-1))), none, false⟩])
 (.ret)))
def fr212 : FR := ⟨19, [.tmp 4], cc212⟩
theorem fnis212 : FnIs Tryz.prog 212 fr212 := ⟨Tryz.f212, _, [[0, 1, 7, 8]], [], Tryz.func212, rfl, by kernel_rfl, by kernel_rfl, by kernel_rfl, by kernel_rfl⟩
/-- function 213 -/
def cc213 : CC :=
 .seq (.reg [⟨some 1, .box 9 (.tmp 0), none, false⟩,
   ⟨some 2, .assign (.const (.int .i64 0)), none, false⟩])
 (.seq (.reg [⟨some 3, .slice 199 (.global 4) none none none, none, false⟩,
   ⟨some 4, .makeFunc (.func 226) #[] #[(.tmp 1)], none, false⟩,
   ⟨some 5, .call { callee := (.value (.func 225)), args := #[(.tmp 3), (.tmp 4)], argTypes := #[206, 207] }, none, false⟩,
   ⟨some 2, .assign (.tmp 5), none, false⟩])
 (.ret))
def fr213 : FR := ⟨6, [.tmp 2], cc213⟩
theorem fnis213 : FnIs Tryz.prog 213 fr213 := ⟨Tryz.f213, _, [], [], Tryz.func213, rfl, by kernel_rfl, by kernel_rfl, by kernel_rfl, by kernel_rfl⟩
/-- function 214 -/
def cc214 : CC :=
 .seq (.reg [⟨some 2, .assign (.const (.bool false)), none, false⟩])
 (.seq (.block 0
 (.loop [0]
 (.seq (.seq (.reg [⟨some 7, .move (.tmp 0), none, false⟩,
   ⟨some 8, .call { callee := (.builtin .len), args := #[(.tmp 7)], argTypes := #[9] }, none, false⟩,
   ⟨some 9, .binOp .gtr 3 (.tmp 8) (.const (.int .i64 0)) 3, none, false⟩])
 (.cond (.tmp 9)
 (.skip)
 (.exit 0)))
 (.block 1
 (.seq (.reg [⟨some 10, .move (.tmp 0), none, false⟩,
   ⟨some 11, .index 9 (.tmp 10) (.const (.int .i64 0)), none, false⟩,
   ⟨some 3, .assign (.tmp 11), none, false⟩])
 (.seq (.seq (.reg [⟨some 12, .move (.tmp 3), none, false⟩,
   ⟨some 13, .binOp .lss 5 (.tmp 12) (.const (.int .u8 128)) 5, none, false⟩])
 (.cond (.tmp 13)
 (.seq (.reg [⟨some 14, .move (.tmp 0), none, false⟩,
   ⟨some 15, .slice 9 (.tmp 14) (some (.const (.int .i64 1))) none none, none, false⟩,
   ⟨some 0, .assign (.tmp 15), none, false⟩])
 (.seq (.seq (.reg [⟨some 16, .move (.tmp 0), none, false⟩,
   ⟨some 17, .call { callee := (.builtin .len), args := #[(.tmp 16)], argTypes := #[9] }, none, false⟩,
   ⟨some 18, .binOp .gtr 3 (.tmp 17) (.const (.int .i64 8)) 3, none, false⟩,
   ⟨some 19, .move (.tmp 18), none, false⟩,
   ⟨some 20, .move (.tmp 0), some (19, true), false⟩,
   ⟨some 21, .call { callee := (.value (.func 227)), args := #[(.tmp 20)], argTypes := #[9] }, some (19, true), false⟩,
   ⟨some 22, .binOp .and 12 (.tmp 21) (.const (.int .u64 9259542123273814144)) 12, some (19, true), false⟩,
   ⟨some 23, .binOp .eql 12 (.tmp 22) (.const (.int .u64 0)) 12, some (19, true), false⟩,
   ⟨some 24, .pick (.tmp 19) (.tmp 23) (.const (.bool false)), none, false⟩])
 (.cond (.tmp 24)
 (.seq (.reg [⟨some 25, .move (.tmp 0), none, false⟩,
   ⟨some 26, .slice 9 (.tmp 25) (some (.const (.int .i64 8))) none none, none, false⟩,
   ⟨some 0, .assign (.tmp 26), none, false⟩])
 (.seq (.reg [⟨some 27, .move (.tmp 0), none, false⟩,
   ⟨some 28, .call { callee := (.builtin .len), args := #[(.tmp 27)], argTypes := #[9] }, none, false⟩,
   ⟨some 29, .binOp .gtr 3 (.tmp 28) (.const (.int .i64 16)) 3, none, false⟩,
   ⟨some 30, .move (.tmp 29), none, false⟩,
   ⟨some 31, .move (.tmp 0), some (30, true), false⟩,
   ⟨some 33, .move (.tmp 0), some (30, true), false⟩,
   ⟨some 34, .slice 9 (.tmp 33) (some (.const (.int .i64 8))) none none, some (30, true), false⟩,
   ⟨some 32, .call { callee := (.value (.func 227)), args := #[(.tmp 31)], argTypes := #[9] }, some (30, true), false⟩,
   ⟨some 35, .call { callee := (.value (.func 227)), args := #[(.tmp 34)], argTypes := #[9] }, some (30, true), false⟩,
   ⟨some 36, .binOp .or 12 (.tmp 32) (.tmp 35) 12, some (30, true), false⟩,
   ⟨some 37, .binOp .and 12 (.tmp 36) (.const (.int .u64 9259542123273814144)) 12, some (30, true), false⟩,
   ⟨some 38, .binOp .eql 12 (.tmp 37) (.const (.int .u64 0)) 12, some (30, true), false⟩,
   ⟨some 39, .pick (.tmp 30) (.tmp 38) (.const (.bool false)), none, false⟩])
 (.cond (.tmp 39)
 (.seq (.reg [⟨some 40, .move (.tmp 0), none, false⟩,
   ⟨some 41, .slice 9 (.tmp 40) (some (.const (.int .i64 16))) none none, none, false⟩,
   ⟨some 0, .assign (.tmp 41), none, false⟩])
 (.block 2
 (.loop [0]
 (.seq (.seq (.reg [⟨some 42, .move (.tmp 0), none, false⟩,
   ⟨some 43, .call { callee := (.builtin .len), args := #[(.tmp 42)], argTypes := #[9] }, none, false⟩,
   ⟨some 44, .binOp .gtr 3 (.tmp 43) (.const (.int .i64 32)) 3, none, false⟩,
   ⟨some 45, .move (.tmp 44), none, false⟩,
   ⟨some 46, .move (.tmp 0), some (45, true), false⟩,
   ⟨some 48, .move (.tmp 0), some (45, true), false⟩,
   ⟨some 49, .slice 9 (.tmp 48) (some (.const (.int .i64 8))) none none, some (45, true), false⟩,
   ⟨some 52, .move (.tmp 0), some (45, true), false⟩,
   ⟨some 53, .slice 9 (.tmp 52) (some (.const (.int .i64 16))) none none, some (45, true), false⟩,
   ⟨some 55, .move (.tmp 0), some (45, true), false⟩,
   ⟨some 56, .slice 9 (.tmp 55) (some (.const (.int .i64 24))) none none, some (45, true), false⟩,
   ⟨some 47, .call { callee := (.value (.func 227)), args := #[(.tmp 46)], argTypes := #[9] }, some (45, true), false⟩,
   ⟨some 50, .call { callee := (.value (.func 227)), args := #[(.tmp 49)], argTypes := #[9] }, some (45, true), false⟩,
   ⟨some 51, .binOp .or 12 (.tmp 47) (.tmp 50) 12, some (45, true), false⟩,
   ⟨some 54, .call { callee := (.value (.func 227)), args := #[(.tmp 53)], argTypes := #[9] }, some (45, true), false⟩,
   ⟨some 57, .call { callee := (.value (.func 227)), args := #[(.tmp 56)], argTypes := #[9] }, some (45, true), false⟩,
   ⟨some 58, .binOp .or 12 (.tmp 54) (.tmp 57) 12, some (45, true), false⟩,
   ⟨some 59, .binOp .or 12 (.tmp 51) (.tmp 58) 12, some (45, true), false⟩,
   ⟨some 60, .binOp .and 12 (.tmp 59) (.const (.int .u64 9259542123273814144)) 12, some (45, true), false⟩,
   ⟨some 61, .binOp .eql 12 (.tmp 60) (.const (.int .u64 0)) 12, some (45, true), false⟩,
   ⟨some 62, .pick (.tmp 45) (.tmp 61) (.const (.bool false)), none, false⟩])
 (.cond (.tmp 62)
 (.skip)
 (.exit 2)))
 (.block 3
 (.reg [⟨some 63, .move (.tmp 0), none, false⟩,
   ⟨some 64, .slice 9 (.tmp 63) (some (.const (.int .i64 32))) none none, none, false⟩,
   ⟨some 0, .assign (.tmp 64), none, false⟩]))))))
 (.skip))))
 (.skip)))
 (.exit 1)))
 (.skip)))
 (.seq (.reg [⟨some 65, .move (.tmp 3), none, false⟩,
   ⟨some 66, .indexAddr 192 (.global 1) (.tmp 65), none, false⟩,
   ⟨some 67, .load 5 (.tmp 66), none, false⟩,
   ⟨some 4, .assign (.tmp 67), none, false⟩])
 (.seq (.reg [⟨some 68, .move (.tmp 4), none, false⟩,
   ⟨some 69, .binOp .and 5 (.tmp 68) (.const (.int .u8 7)) 5, none, false⟩,
   ⟨some 70, .convert 5 3 (.tmp 69), none, false⟩,
   ⟨some 5, .assign (.tmp 70), none, false⟩])
 (.seq (.reg [⟨some 71, .move (.tmp 4), none, false⟩,
   ⟨some 72, .binOp .shr 5 (.tmp 71) (.const (.int .u64 4)) 188, none, false⟩,
   ⟨some 73, .indexAddr 195 (.global 2) (.tmp 72), none, false⟩,
   ⟨some 74, .load 194 (.tmp 73), none, false⟩,
   ⟨some 6, .alloc 194, none, false⟩,
   ⟨none, .store 194 (.tmp 6) (.tmp 74), none, false⟩])
 (.seq (.reg [⟨some 75, .move (.tmp 5), none, false⟩])
 (.block 4
 (.seq (.reg [⟨some 77, .binOp .eql 3 (.tmp 75) (.const (.int .i64 2)) 3, none, false⟩,
   ⟨some 76, .assign (.tmp 77), none, false⟩])
 (.cond (.tmp 76)
 (.seq (.seq (.reg [⟨some 78, .move (.tmp 0), none, false⟩,
   ⟨some 79, .call { callee := (.builtin .len), args := #[(.tmp 78)], argTypes := #[9] }, none, false⟩,
   ⟨some 80, .binOp .lss 3 (.tmp 79) (.const (.int .i64 2)) 3, none, false⟩,
   ⟨some 81, .move (.tmp 80), none, false⟩,
   ⟨some 82, .move (.tmp 0), some (81, false), false⟩,
   ⟨some 83, .index 9 (.tmp 82) (.const (.int .i64 1)), some (81, false), false⟩,
   ⟨some 84, .fieldAddr 194 (.tmp 6) 0, some (81, false), false⟩,
   ⟨some 85, .load 5 (.tmp 84), some (81, false), false⟩,
   ⟨some 86, .binOp .lss 5 (.tmp 83) (.tmp 85) 5, some (81, false), false⟩,
   ⟨some 87, .pick (.tmp 81) (.const (.bool true)) (.tmp 86), none, false⟩,
   ⟨some 88, .move (.tmp 87), none, false⟩,
   ⟨some 89, .fieldAddr 194 (.tmp 6) 1, some (88, false), false⟩,
   ⟨some 90, .load 5 (.tmp 89), some (88, false), false⟩,
   ⟨some 91, .move (.tmp 0), some (88, false), false⟩,
   ⟨some 92, .index 9 (.tmp 91) (.const (.int .i64 1)), some (88, false), false⟩,
   ⟨some 93, .binOp .lss 5 (.tmp 90) (.tmp 92) 5, some (88, false), false⟩,
   ⟨some 94, .pick (.tmp 88) (.const (.bool true)) (.tmp 93), none, false⟩])
 (.cond (.tmp 94)
 (.seq (.reg [⟨some 2, .assign (.const (.bool false)), none, false⟩])
 (.ret))
 (.skip)))
 (.reg [⟨some 95, .move (.tmp 0), none, false⟩,
   ⟨some 96, .slice 9 (.tmp 95) (some (.const (.int .i64 2))) none none, none, false⟩,
   ⟨some 0, .assign (.tmp 96), none, false⟩]))
 (.seq (.reg [⟨some 98, .binOp .eql 3 (.tmp 75) (.const (.int .i64 3)) 3, none, false⟩,
   ⟨some 97, .assign (.tmp 98), none, false⟩])
 (.cond (.tmp 97)
 (.seq (.seq (.reg [⟨some 99, .move (.tmp 0), none, false⟩,
   ⟨some 100, .call { callee := (.builtin .len), args := #[(.tmp 99)], argTypes := #[9] }, none, false⟩,
   ⟨some 101, .binOp .lss 3 (.tmp 100) (.const (.int .i64 3)) 3, none, false⟩,
   ⟨some 102, .move (.tmp 101), none, false⟩,
   ⟨some 103, .move (.tmp 0), some (102, false), false⟩,
   ⟨some 104, .index 9 (.tmp 103) (.const (.int .i64 1)), some (102, false), false⟩,
   ⟨some 105, .fieldAddr 194 (.tmp 6) 0, some (102, false), false⟩,
   ⟨some 106, .load 5 (.tmp 105), some (102, false), false⟩,
   ⟨some 107, .binOp .lss 5 (.tmp 104) (.tmp 106) 5, some (102, false), false⟩,
   ⟨some 108, .pick (.tmp 102) (.const (.bool true)) (.tmp 107), none, false⟩,
   ⟨some 109, .move (.tmp 108), none, false⟩,
   ⟨some 110, .fieldAddr 194 (.tmp 6) 1, some (109, false), false⟩,
   ⟨some 111, .load 5 (.tmp 110), some (109, false), false⟩,
   ⟨some 112, .move (.tmp 0), some (109, false), false⟩,
   ⟨some 113, .index 9 (.tmp 112) (.const (.int .i64 1)), some (109, false), false⟩,
   ⟨some 114, .binOp .lss 5 (.tmp 111) (.tmp 113) 5, some (109, false), false⟩,
   ⟨some 115, .pick (.tmp 109) (.const (.bool true)) (.tmp 114), none, false⟩,
   ⟨some 116, .move (.tmp 115), none, false⟩,
   ⟨some 117, .move (.tmp 0), some (116, false), false⟩,
   ⟨some 118, .index 9 (.tmp 117) (.const (.int .i64 2)), some (116, false), false⟩,
   ⟨some 119, .binOp .lss 5 (.tmp 118) (.const (.int .u8 128)) 5, some (116, false), false⟩,
   ⟨some 120, .pick (.tmp 116) (.const (.bool true)) (.tmp 119), none, false⟩,
   ⟨some 121, .move (.tmp 120), none, false⟩,
   ⟨some 122, .move (.tmp 0), some (121, false), false⟩,
   ⟨some 123, .index 9 (.tmp 122) (.const (.int .i64 2)), some (121, false), false⟩,
   ⟨some 124, .binOp .lss 5 (.const (.int .u8 191)) (.tmp 123) 5, some (121, false), false⟩,
   ⟨some 125, .pick (.tmp 121) (.const (.bool true)) (.tmp 124), none, false⟩])
 (.cond (.tmp 125)
 (.seq (.reg [⟨some 2, .assign (.const (.bool false)), none, false⟩])
 (.ret))
 (.skip)))
 (.reg [⟨some 126, .move (.tmp 0), none, false⟩,
   ⟨some 127, .slice 9 (.tmp 126) (some (.const (.int .i64 3))) none none, none, false⟩,
   ⟨some 0, .assign (.tmp 127), none, false⟩]))
 (.seq (.reg [⟨some 129, .binOp .eql 3 (.tmp 75) (.const (.int .i64 4)) 3, none, false⟩,
   ⟨some 128, .assign (.tmp 129), none, false⟩])
 (.cond (.tmp 128)
 (.seq (.seq (.reg [⟨some 130, .move (.tmp 0), none, false⟩,
   ⟨some 131, .call { callee := (.builtin .len), args := #[(.tmp 130)], argTypes := #[9] }, none, false⟩,
   ⟨some 132, .binOp .lss 3 (.tmp 131) (.const (.int .i64 4)) 3, none, false⟩,
   ⟨some 133, .move (.tmp 132), none, false⟩,
   ⟨some 134, .move (.tmp 0), some (133, false), false⟩,
   ⟨some 135, .index 9 (.tmp 134) (.const (.int .i64 1)), some (133, false), false⟩,
   ⟨some 136, .fieldAddr 194 (.tmp 6) 0, some (133, false), false⟩,
   ⟨some 137, .load 5 (.tmp 136), some (133, false), false⟩,
   ⟨some 138, .binOp .lss 5 (.tmp 135) (.tmp 137) 5, some (133, false), false⟩,
   ⟨some 139, .pick (.tmp 133) (.const (.bool true)) (.tmp 138), none, false⟩,
   ⟨some 140, .move (.tmp 139), none, false⟩,
   ⟨some 141, .fieldAddr 194 (.tmp 6) 1, some (140, false), false⟩,
   ⟨some 142, .load 5 (.tmp 141), some (140, false), false⟩,
   ⟨some 143, .move (.tmp 0), some (140, false), false⟩,
   ⟨some 144, .index 9 (.tmp 143) (.const (.int .i64 1)), some (140, false), false⟩,
   ⟨some 145, .binOp .lss 5 (.tmp 142) (.tmp 144) 5, some (140, false), false⟩,
   ⟨some 146, .pick (.tmp 140) (.const (.bool true)) (.tmp 145), none, false⟩,
   ⟨some 147, .move (.tmp 146), none, false⟩,
   ⟨some 148, .move (.tmp 0), some (147, false), false⟩,
   ⟨some 149, .index 9 (.tmp 148) (.const (.int .i64 2)), some (147, false), false⟩,
   ⟨some 150, .binOp .lss 5 (.tmp 149) (.const (.int .u8 128)) 5, some (147, false), false⟩,
   ⟨some 151, .pick (.tmp 147) (.const (.bool true)) (.tmp 150), none, false⟩,
   ⟨some 152, .move (.tmp 151), none, false⟩,
   ⟨some 153, .move (.tmp 0), some (152, false), false⟩,
   ⟨some 154, .index 9 (.tmp 153) (.const (.int .i64 2)), some (152, false), false⟩,
   ⟨some 155, .binOp .lss 5 (.const (.int .u8 191)) (.tmp 154) 5, some (152, false), false⟩,
   ⟨some 156, .pick (.tmp 152) (.const (.bool true)) (.tmp 155), none, false⟩,
   ⟨some 157, .move (.tmp 156), none, false⟩,
   ⟨some 158, .move (.tmp 0), some (157, false), false⟩,
   ⟨some 159, .index 9 (.tmp 158) (.const (.int .i64 3)), some (157, false), false⟩,
   ⟨some 160, .binOp .lss 5 (.tmp 159) (.const (.int .u8 128)) 5, some (157, false), false⟩,
   ⟨some 161, .pick (.tmp 157) (.const (.bool true)) (.tmp 160), none, false⟩,
   ⟨some 162, .move (.tmp 161), none, false⟩,
   ⟨some 163, .move (.tmp 0), some (162, false), false⟩,
   ⟨some 164, .index 9 (.tmp 163) (.const (.int .i64 3)), some (162, false), false⟩,
   ⟨some 165, .binOp .lss 5 (.const (.int .u8 191)) (.tmp 164) 5, some (162, false), false⟩,
   ⟨some 166, .pick (.tmp 162) (.const (.bool true)) (.tmp 165), none, false⟩])
 (.cond (.tmp 166)
 (.seq (.reg [⟨some 2, .assign (.const (.bool false)), none, false⟩])
 (.ret))
 (.skip)))
 (.reg [⟨some 167, .move (.tmp 0), none, false⟩,
   ⟨some 168, .slice 9 (.tmp 167) (some (.const (.int .i64 4))) none none, none, false⟩,
   ⟨some 0, .assign (.tmp 168), none, false⟩]))
 (.seq (.reg [⟨some 2, .assign (.const (.bool false)), none, false⟩])
 (.ret)))))))))))))))))))
 (.seq (.reg [⟨some 2, .assign (.const (.bool true)), none, false⟩])
 (.ret)))
def fr214 : FR := ⟨169, [.tmp 2], cc214⟩
theorem fnis214 : FnIs Tryz.prog 214 fr214 := ⟨Tryz.f214, _, [[0], [0]], [], Tryz.func214, rfl, by kernel_rfl, by kernel_rfl, by kernel_rfl, by kernel_rfl⟩
/-- function 215 -/
def cc215 : CC :=
 .seq (.reg [⟨some 4, .assign (.const (.bool false)), none, false⟩])
 (.seq (.reg [⟨some 5, .move (.tmp 0), none, false⟩,
   ⟨some 6, .move (.tmp 1), none, false⟩,
   ⟨some 7, .call { callee := (.value (.func 228)), args := #[(.tmp 5), (.tmp 6)], argTypes := #[9, 9] }, none, false⟩,
   ⟨some 8, .binOp .geq 3 (.tmp 7) (.const (.int .i64 0)) 3, none, false⟩,
   ⟨some 4, .assign (.tmp 8), none, false⟩])
 (.ret))
def fr215 : FR := ⟨9, [.tmp 4], cc215⟩
theorem fnis215 : FnIs Tryz.prog 215 fr215 := ⟨Tryz.f215, _, [], [], Tryz.func215, rfl, by kernel_rfl, by kernel_rfl, by kernel_rfl, by kernel_rfl⟩
/-- function 216 -/
def cc216 : CC :=
 .seq (.reg [⟨some 2, .assign (.const (.int .i64 0)), none, false⟩])
 (.seq (.reg [⟨some 6, .move (.tmp 0), none, false⟩,
   ⟨some 7, .call { callee := (.value (.func 53)), args := #[(.tmp 6)], argTypes := #[9] }, none, false⟩,
   ⟨some 5, .move (.tmp 7), none, false⟩,
   ⟨some 8, .extract (.tmp 5) 0, none, false⟩,
   ⟨some 9, .extract (.tmp 5) 1, none, false⟩,
   ⟨some 3, .assign (.tmp 8), none, false⟩,
   ⟨some 4, .assign (.tmp 9), none, false⟩])
 (.seq (.seq (.reg [⟨some 10, .move (.tmp 0), none, false⟩,
   ⟨some 11, .call { callee := (.value (.func 22)), args := #[(.tmp 10)], argTypes := #[9] }, none, false⟩,
   ⟨some 12, .unOp .not 4 (.tmp 11), none, false⟩])
 (.cond (.tmp 12)
 (.seq (.reg [⟨some 2, .assign (.const (.int .i64 0)), none, false⟩])
 (.ret))
 (.skip)))
 (.seq (.reg [⟨some 13, .move (.tmp 4), none, false⟩,
   ⟨some 2, .assign (.tmp 13), none, false⟩])
 (.ret))))
def fr216 : FR := ⟨14, [.tmp 2], cc216⟩
theorem fnis216 : FnIs Tryz.prog 216 fr216 := ⟨Tryz.f216, _, [], [], Tryz.func216, rfl, by kernel_rfl, by kernel_rfl, by kernel_rfl, by kernel_rfl⟩
/-- function 217 -/
def cc217 : CC :=
 .seq (.reg [⟨some 4, .assign (.const (.int .i64 0)), none, false⟩])
 (.seq (.seq (.reg [⟨some 6, .move (.tmp 0), none, false⟩,
   ⟨some 7, .call { callee := (.builtin .len), args := #[(.tmp 6)], argTypes := #[37] }, none, false⟩,
   ⟨some 8, .move (.const (.int .i64 0)), none, false⟩])
 (.block 0
 (.loop [0, 1, 7, 8]
 (.seq (.reg [⟨some 9, .binOp .lss 3 (.tmp 8) (.tmp 7) 3, none, false⟩])
 (.seq (.cond (.tmp 9)
 (.skip)
 (.exit 0))
 (.seq (.block 1
 (.seq (.reg [⟨some 10, .move (.tmp 8), none, false⟩,
   ⟨some 5, .assign (.tmp 10), none, false⟩])
 (.seq (.reg [⟨some 11, .move (.tmp 1), none, false⟩,
   ⟨some 12, .move (.tmp 0), none, false⟩,
   ⟨some 13, .move (.tmp 5), none, false⟩,
   ⟨some 14, .indexAddr 37 (.tmp 12) (.tmp 13), none, false⟩,
   ⟨some 15, .load 140 (.tmp 14), none, false⟩,
   ⟨some 16, .call { callee := (.value (.tmp 11)), args := #[(.tmp 15)], argTypes := #[140] }, none, false⟩])
 (.cond (.tmp 16)
 (.seq (.reg [⟨some 17, .move (.tmp 5), none, false⟩,
   ⟨some 4, .assign (.tmp 17), none, false⟩])
 (.ret))
 (.skip)))))
 (.reg [⟨some 18, .binOp .add 3 (.tmp 8) (.const (.int .i64 1)) 3, none, false⟩,
   ⟨some 8, .move (.tmp 18), none, false⟩])))))))
 (.seq (.reg [⟨some 4, .assign (.const (.int .i64 (-1))), none, false⟩])
 (.ret)))
def fr217 : FR := ⟨19, [.tmp 4], cc217⟩
theorem fnis217 : FnIs Tryz.prog 217 fr217 := ⟨Tryz.f217, _, [[0, 1, 7, 8]], [], Tryz.func217, rfl, by kernel_rfl, by kernel_rfl, by kernel_rfl, by kernel_rfl⟩
/-- function 220 -/
def cc220 : CC :=
 .seq (.reg [⟨some 2, .assign (.const (.int .i64 0)), none, false⟩])
 (.seq (.seq (.reg [⟨some 3, .move (.tmp 0), none, false⟩])
 (.block 0
 (.seq (.seq (.reg [⟨some 5, .binOp .eql 9 (.tmp 3) (.const (.string { data := #[105, 110, 116] })) 9, none, false⟩,
   ⟨some 4, .assign (.tmp 5), none, false⟩])
 (.cond (.tmp 4)
 (.skip)
 (.seq (.reg [⟨some 6, .binOp .eql 9 (.tmp 3) (.const (.string { data := #[108, 111, 97, 100] })) 9, none, false⟩,
   ⟨some 4, .assign (.tmp 6), none, false⟩])
 (.cond (.tmp 4)
 (.skip)
 (.seq (.reg [⟨some 7, .binOp .eql 9 (.tmp 3) (.const (.string { data := #[115, 116, 111, 114, 101] })) 9, none, false⟩,
   ⟨some 4, .assign (.tmp 7), none, false⟩])
 (.cond (.tmp 4)
 (.skip)
 (.seq (.reg [⟨some 8, .binOp .eql 9 (.tmp 3) (.const (.string { data := #[106, 117, 109, 112] })) 9, none, false⟩,
   ⟨some 4, .assign (.tmp 8), none, false⟩])
 (.cond (.tmp 4)
 (.skip)
 (.reg [⟨some 9, .binOp .eql 9 (.tmp 3) (.const (.string { data := #[98, 114, 97, 110, 99, 104] })) 9, none, false⟩,
   ⟨some 4, .assign (.tmp 9), none, false⟩])))))))))
 (.cond (.tmp 4)
 (.seq (.reg [⟨some 2, .assign (.const (.int .i64 1)), none, false⟩])
 (.ret))
 (.seq (.seq (.reg [⟨some 11, .binOp .eql 9 (.tmp 3) (.const (.string { data := #[119, 111, 114, 100] })) 9, none, false⟩,
   ⟨some 10, .assign (.tmp 11), none, false⟩])
 (.cond (.tmp 10)
 (.skip)
 (.seq (.reg [⟨some 12, .binOp .eql 9 (.tmp 3) (.const (.string { data := #[110, 101, 119] })) 9, none, false⟩,
   ⟨some 10, .assign (.tmp 12), none, false⟩])
 (.cond (.tmp 10)
 (.skip)
 (.seq (.reg [⟨some 13, .binOp .eql 9 (.tmp 3) (.const (.string { data := #[103, 101, 116] })) 9, none, false⟩,
   ⟨some 10, .assign (.tmp 13), none, false⟩])
 (.cond (.tmp 10)
 (.skip)
 (.seq (.reg [⟨some 14, .binOp .eql 9 (.tmp 3) (.const (.string { data := #[112, 117, 116] })) 9, none, false⟩,
   ⟨some 10, .assign (.tmp 14), none, false⟩])
 (.cond (.tmp 10)
 (.skip)
 (.seq (.reg [⟨some 15, .binOp .eql 9 (.tmp 3) (.const (.string { data := #[99, 97, 108, 108] })) 9, none, false⟩,
   ⟨some 10, .assign (.tmp 15), none, false⟩])
 (.cond (.tmp 10)
 (.skip)
 (.seq (.reg [⟨some 16, .binOp .eql 9 (.tmp 3) (.const (.string { data := #[97, 114, 114, 97, 121] })) 9, none, false⟩,
   ⟨some 10, .assign (.tmp 16), none, false⟩])
 (.cond (.tmp 10)
 (.skip)
 (.seq (.reg [⟨some 17, .binOp .eql 9 (.tmp 3) (.const (.string { data := #[105, 115] })) 9, none, false⟩,
   ⟨some 10, .assign (.tmp 17), none, false⟩])
 (.cond (.tmp 10)
 (.skip)
 (.reg [⟨some 18, .binOp .eql 9 (.tmp 3) (.const (.string { data := #[99, 97, 115, 116] })) 9, none, false⟩,
   ⟨some 10, .assign (.tmp 18), none, false⟩])))))))))))))))
 (.cond (.tmp 10)
 (.seq (.reg [⟨some 2, .assign (.const (.int .i64 2)), none, false⟩])
 (.ret))
 (.skip)))))))
 (.seq (.seq (.reg [⟨some 19, .move (.tmp 0), none, false⟩,
   ⟨some 20, .call { callee := (.value (.func 229)), args := #[(.tmp 19)], argTypes := #[9] }, none, false⟩,
   ⟨some 21, .binOp .lss 3 (.tmp 20) (.const (.int .i64 0)) 3, none, false⟩])
 (.cond (.tmp 21)
 (.seq (.reg [⟨some 2, .assign (.const (.int .i64 (-1))), none, false⟩])
 (.ret))
 (.skip)))
 (.seq (.reg [⟨some 2, .assign (.const (.int .i64 0)), none, false⟩])
 (.ret))))
def fr220 : FR := ⟨22, [.tmp 2], cc220⟩
theorem fnis220 : FnIs Tryz.prog 220 fr220 := ⟨Tryz.f220, _, [], [], Tryz.func220, rfl, by kernel_rfl, by kernel_rfl, by kernel_rfl, by kernel_rfl⟩
/-- function 221 -/
def cc221 : CC :=
 .seq (.reg [⟨some 2, .assign (.const (.bool false)), none, false⟩])
 (.seq (.block 0
 (.loop [0]
 (.seq (.seq (.reg [⟨some 4, .move (.tmp 0), none, false⟩,
   ⟨some 5, .binOp .neq 9 (.tmp 4) (.const (.string { data := #[] })) 9, none, false⟩])
 (.cond (.tmp 5)
 (.skip)
 (.exit 0)))
 (.block 1
 (.seq (.reg [⟨some 6, .move (.tmp 0), none, false⟩,
   ⟨some 7, .call { callee := (.value (.func 230)), args := #[(.tmp 6)], argTypes := #[9] }, none, false⟩,
   ⟨some 3, .assign (.tmp 7), none, false⟩])
 (.seq (.seq (.reg [⟨some 8, .move (.tmp 3), none, false⟩,
   ⟨some 9, .binOp .eql 3 (.tmp 8) (.const (.int .i64 0)) 3, none, false⟩])
 (.cond (.tmp 9)
 (.seq (.reg [⟨some 2, .assign (.const (.bool false)), none, false⟩])
 (.ret))
 (.skip)))
 (.reg [⟨some 10, .move (.tmp 0), none, false⟩,
   ⟨some 11, .move (.tmp 3), none, false⟩,
   ⟨some 12, .slice 9 (.tmp 10) (some (.tmp 11)) none none, none, false⟩,
   ⟨some 0, .assign (.tmp 12), none, false⟩])))))))
 (.seq (.reg [⟨some 2, .assign (.const (.bool true)), none, false⟩])
 (.ret)))
def fr221 : FR := ⟨13, [.tmp 2], cc221⟩
theorem fnis221 : FnIs Tryz.prog 221 fr221 := ⟨Tryz.f221, _, [[0]], [], Tryz.func221, rfl, by kernel_rfl, by kernel_rfl, by kernel_rfl, by kernel_rfl⟩
/-- function 222 -/
def cc222 : CC :=
 .seq (.reg [⟨some 2, .assign (.const (.string { data := #[] })), none, false⟩,
   ⟨some 3, .assign (.const (.string { data := #[] })), none, false⟩,
   ⟨some 4, .assign (.const (.bool false)), none, false⟩])
 (.seq (.seq (.reg [⟨some 5, .assign (.const (.int .i64 0)), none, false⟩])
 (.block 0
 (.loop [0, 5]
 (.seq (.seq (.reg [⟨some 6, .move (.tmp 5), none, false⟩,
   ⟨some 7, .move (.tmp 0), none, false⟩,
   ⟨some 8, .call { callee := (.builtin .len), args := #[(.tmp 7)], argTypes := #[9] }, none, false⟩,
   ⟨some 9, .binOp .lss 3 (.tmp 6) (.tmp 8) 3, none, false⟩])
 (.cond (.tmp 9)
 (.skip)
 (.exit 0)))
 (.seq (.block 1
 (.seq (.reg [⟨some 12, .move (.tmp 0), none, false⟩,
   ⟨some 13, .move (.tmp 5), none, false⟩,
   ⟨some 14, .index 9 (.tmp 12) (.tmp 13), none, false⟩,
   ⟨some 15, .binOp .eql 5 (.tmp 14) (.const (.int .u8 46)) 5, none, false⟩])
 (.cond (.tmp 15)
 (.seq (.reg [⟨some 16, .move (.tmp 0), none, false⟩,
   ⟨some 17, .move (.tmp 5), none, false⟩,
   ⟨some 18, .slice 9 (.tmp 16) none (some (.tmp 17)) none, none, false⟩,
   ⟨some 19, .move (.tmp 0), none, false⟩,
   ⟨some 20, .move (.tmp 5), none, false⟩,
   ⟨some 21, .binOp .add 3 (.tmp 20) (.const (.int .i64 1)) 3, none, false⟩,
   ⟨some 22, .slice 9 (.tmp 19) (some (.tmp 21)) none none, none, false⟩,
   ⟨some 23, .move (.tmp 0), none, false⟩,
   ⟨some 24, .move (.tmp 5), none, false⟩,
   ⟨some 25, .slice 9 (.tmp 23) none (some (.tmp 24)) none, none, false⟩,
   ⟨some 26, .call { callee := (.value (.func 142)), args := #[(.tmp 25)], argTypes := #[9] }, none, false⟩,
   ⟨some 27, .move (.tmp 26), none, false⟩,
   ⟨some 28, .move (.tmp 0), some (27, true), false⟩,
   ⟨some 29, .move (.tmp 5), some (27, true), false⟩,
   ⟨some 30, .binOp .add 3 (.tmp 29) (.const (.int .i64 1)) 3, some (27, true), false⟩,
   ⟨some 31, .slice 9 (.tmp 28) (some (.tmp 30)) none none, some (27, true), false⟩,
   ⟨some 32, .call { callee := (.value (.func 143)), args := #[(.tmp 31)], argTypes := #[9] }, some (27, true), false⟩,
   ⟨some 33, .pick (.tmp 27) (.tmp 32) (.const (.bool false)), none, false⟩,
   ⟨some 2, .assign (.tmp 18), none, false⟩,
   ⟨some 3, .assign (.tmp 22), none, false⟩,
   ⟨some 4, .assign (.tmp 33), none, false⟩])
 (.ret))
 (.skip))))
 (.reg [⟨some 10, .move (.tmp 5), none, false⟩,
   ⟨some 11, .binOp .add 3 (.tmp 10) (.const (.int .i64 1)) 3, none, false⟩,
   ⟨some 5, .assign (.tmp 11), none, false⟩]))))))
 (.seq (.reg [⟨some 2, .assign (.const (.string { data := #[] })), none, false⟩,
   ⟨some 3, .assign (.const (.string { data := #[] })), none, false⟩,
   ⟨some 4, .assign (.const (.bool false)), none, false⟩])
 (.ret)))
def fr222 : FR := ⟨34, [.tmp 2, .tmp 3, .tmp 4], cc222⟩
theorem fnis222 : FnIs Tryz.prog 222 fr222 := ⟨Tryz.f222, _, [[0, 5]], [], Tryz.func222, rfl, by kernel_rfl, by kernel_rfl, by kernel_rfl, by kernel_rfl⟩
/-- function 223 -/
def cc223 : CC :=
 .seq (.reg [⟨some 4, .assign (.const (.int .i64 0)), none, false⟩])
 (.seq (.reg [⟨some 14, .move (.tmp 1), none, false⟩,
   ⟨some 15, .call { callee := (.builtin .len), args := #[(.tmp 14)], argTypes := #[9] }, none, false⟩,
   ⟨some 5, .assign (.tmp 15), none, false⟩])
 (.seq (.block 0
 (.seq (.reg [⟨some 17, .move (.tmp 5), none, false⟩,
   ⟨some 18, .binOp .eql 3 (.tmp 17) (.const (.int .i64 0)) 3, none, false⟩,
   ⟨some 19, .move (.tmp 18), none, false⟩,
   ⟨some 20, .move (.tmp 1), some (19, false), false⟩,
   ⟨some 21, .move (.tmp 0), some (19, false), false⟩,
   ⟨some 22, .binOp .eql 9 (.tmp 20) (.tmp 21) 9, some (19, false), false⟩,
   ⟨some 23, .pick (.tmp 19) (.const (.bool true)) (.tmp 22), none, false⟩,
   ⟨some 16, .assign (.tmp 23), none, false⟩])
 (.cond (.tmp 16)
 (.seq (.reg [⟨some 4, .assign (.const (.int .i64 0)), none, false⟩])
 (.ret))
 (.seq (.reg [⟨some 25, .move (.tmp 5), none, false⟩,
   ⟨some 26, .binOp .eql 3 (.tmp 25) (.const (.int .i64 1)) 3, none, false⟩,
   ⟨some 24, .assign (.tmp 26), none, false⟩])
 (.cond (.tmp 24)
 (.seq (.reg [⟨some 27, .move (.tmp 0), none, false⟩,
   ⟨some 28, .move (.tmp 1), none, false⟩,
   ⟨some 29, .index 9 (.tmp 28) (.const (.int .i64 0)), none, false⟩,
   ⟨some 30, .call { callee := (.value (.func 211)), args := #[(.tmp 27), (.tmp 29)], argTypes := #[9, 5] }, none, false⟩,
   ⟨some 4, .assign (.tmp 30), none, false⟩])
 (.ret))
 (.seq (.reg [⟨some 32, .move (.tmp 5), none, false⟩,
   ⟨some 33, .move (.tmp 0), none, false⟩,
   ⟨some 34, .call { callee := (.builtin .len), args := #[(.tmp 33)], argTypes := #[9] }, none, false⟩,
   ⟨some 35, .binOp .geq 3 (.tmp 32) (.tmp 34) 3, none, false⟩,
   ⟨some 31, .assign (.tmp 35), none, false⟩])
 (.cond (.tmp 31)
 (.seq (.reg [⟨some 4, .assign (.const (.int .i64 (-1))), none, false⟩])
 (.ret))
 (.seq (.reg [⟨some 37, .move (.tmp 5), none, false⟩,
   ⟨some 38, .load 3 (.global 3), none, false⟩,
   ⟨some 39, .binOp .leq 3 (.tmp 37) (.tmp 38) 3, none, false⟩,
   ⟨some 40, .move (.tmp 39), none, false⟩,
   ⟨some 41, .move (.tmp 0), some (40, true), false⟩,
   ⟨some 42, .call { callee := (.builtin .len), args := #[(.tmp 41)], argTypes := #[9] }, some (40, true), false⟩,
   ⟨some 43, .binOp .leq 3 (.tmp 42) (.const (.int .i64 64)) 3, some (40, true), false⟩,
   ⟨some 44, .pick (.tmp 40) (.tmp 43) (.const (.bool false)), none, false⟩,
   ⟨some 36, .assign (.tmp 44), none, false⟩])
 (.cond (.tmp 36)
 (.seq (.reg [⟨some 45, .move (.tmp 0), none, false⟩,
   ⟨some 46, .move (.tmp 1), none, false⟩,
   ⟨some 47, .call { callee := (.value (.func 199)), args := #[(.tmp 45), (.tmp 46)], argTypes := #[9, 9] }, none, false⟩,
   ⟨some 4, .assign (.tmp 47), none, false⟩])
 (.ret))
 (.skip))))))))))
 (.seq (.reg [⟨some 48, .move (.tmp 1), none, false⟩,
   ⟨some 49, .index 9 (.tmp 48) (.const (.int .i64 0)), none, false⟩,
   ⟨some 6, .assign (.tmp 49), none, false⟩])
 (.seq (.reg [⟨some 50, .move (.tmp 1), none, false⟩,
   ⟨some 51, .index 9 (.tmp 50) (.const (.int .i64 1)), none, false⟩,
   ⟨some 7, .assign (.tmp 51), none, false⟩])
 (.seq (.reg [⟨some 8, .assign (.const (.int .i64 0)), none, false⟩])
 (.seq (.reg [⟨some 52, .move (.tmp 0), none, false⟩,
   ⟨some 53, .call { callee := (.builtin .len), args := #[(.tmp 52)], argTypes := #[9] }, none, false⟩,
   ⟨some 54, .move (.tmp 5), none, false⟩,
   ⟨some 55, .binOp .sub 3 (.tmp 53) (.tmp 54) 3, none, false⟩,
   ⟨some 56, .binOp .add 3 (.tmp 55) (.const (.int .i64 1)) 3, none, false⟩,
   ⟨some 9, .assign (.tmp 56), none, false⟩])
 (.seq (.reg [⟨some 10, .assign (.const (.int .i64 0)), none, false⟩])
 (.seq (.block 1
 (.loop [0, 1, 5, 6, 7, 8, 9, 10]
 (.seq (.seq (.reg [⟨some 57, .move (.tmp 8), none, false⟩,
   ⟨some 58, .move (.tmp 9), none, false⟩,
   ⟨some 59, .binOp .lss 3 (.tmp 57) (.tmp 58) 3, none, false⟩])
 (.cond (.tmp 59)
 (.skip)
 (.exit 1)))
 (.block 2
 (.seq (.seq (.reg [⟨some 60, .move (.tmp 0), none, false⟩,
   ⟨some 61, .move (.tmp 8), none, false⟩,
   ⟨some 62, .index 9 (.tmp 60) (.tmp 61), none, false⟩,
   ⟨some 63, .move (.tmp 6), none, false⟩,
   ⟨some 64, .binOp .neq 5 (.tmp 62) (.tmp 63) 5, none, false⟩])
 (.cond (.tmp 64)
 (.seq (.reg [⟨some 65, .move (.tmp 0), none, false⟩,
   ⟨some 66, .move (.tmp 8), none, false⟩,
   ⟨some 67, .binOp .add 3 (.tmp 66) (.const (.int .i64 1)) 3, none, false⟩,
   ⟨some 68, .move (.tmp 9), none, false⟩,
   ⟨some 69, .slice 9 (.tmp 65) (some (.tmp 67)) (some (.tmp 68)) none, none, false⟩,
   ⟨some 70, .move (.tmp 6), none, false⟩,
   ⟨some 71, .call { callee := (.value (.func 211)), args := #[(.tmp 69), (.tmp 70)], argTypes := #[9, 5] }, none, false⟩,
   ⟨some 11, .assign (.tmp 71), none, false⟩])
 (.seq (.seq (.reg [⟨some 72, .move (.tmp 11), none, false⟩,
   ⟨some 73, .binOp .lss 3 (.tmp 72) (.const (.int .i64 0)) 3, none, false⟩])
 (.cond (.tmp 73)
 (.seq (.reg [⟨some 4, .assign (.const (.int .i64 (-1))), none, false⟩])
 (.ret))
 (.skip)))
 (.reg [⟨some 74, .move (.tmp 8), none, false⟩,
   ⟨some 75, .move (.tmp 11), none, false⟩,
   ⟨some 76, .binOp .add 3 (.tmp 75) (.const (.int .i64 1)) 3, none, false⟩,
   ⟨some 77, .binOp .add 3 (.tmp 74) (.tmp 76) 3, none, false⟩,
   ⟨some 8, .assign (.tmp 77), none, false⟩])))
 (.skip)))
 (.seq (.seq (.reg [⟨some 78, .move (.tmp 0), none, false⟩,
   ⟨some 79, .move (.tmp 8), none, false⟩,
   ⟨some 80, .binOp .add 3 (.tmp 79) (.const (.int .i64 1)) 3, none, false⟩,
   ⟨some 81, .index 9 (.tmp 78) (.tmp 80), none, false⟩,
   ⟨some 82, .move (.tmp 7), none, false⟩,
   ⟨some 83, .binOp .eql 5 (.tmp 81) (.tmp 82) 5, none, false⟩,
   ⟨some 84, .move (.tmp 83), none, false⟩,
   ⟨some 85, .move (.tmp 0), some (84, true), false⟩,
   ⟨some 86, .move (.tmp 8), some (84, true), false⟩,
   ⟨some 87, .move (.tmp 8), some (84, true), false⟩,
   ⟨some 88, .move (.tmp 5), some (84, true), false⟩,
   ⟨some 89, .binOp .add 3 (.tmp 87) (.tmp 88) 3, some (84, true), false⟩,
   ⟨some 90, .slice 9 (.tmp 85) (some (.tmp 86)) (some (.tmp 89)) none, some (84, true), false⟩,
   ⟨some 91, .move (.tmp 1), some (84, true), false⟩,
   ⟨some 92, .binOp .eql 9 (.tmp 90) (.tmp 91) 9, some (84, true), false⟩,
   ⟨some 93, .pick (.tmp 84) (.tmp 92) (.const (.bool false)), none, false⟩])
 (.cond (.tmp 93)
 (.seq (.reg [⟨some 94, .move (.tmp 8), none, false⟩,
   ⟨some 4, .assign (.tmp 94), none, false⟩])
 (.ret))
 (.skip)))
 (.seq (.reg [⟨some 95, .move (.tmp 8), none, false⟩,
   ⟨some 96, .binOp .add 3 (.tmp 95) (.const (.int .i64 1)) 3, none, false⟩,
   ⟨some 8, .assign (.tmp 96), none, false⟩])
 (.seq (.reg [⟨some 97, .move (.tmp 10), none, false⟩,
   ⟨some 98, .binOp .add 3 (.tmp 97) (.const (.int .i64 1)) 3, none, false⟩,
   ⟨some 10, .assign (.tmp 98), none, false⟩])
 (.seq (.reg [⟨some 99, .move (.tmp 5), none, false⟩,
   ⟨some 100, .load 3 (.global 3), none, false⟩,
   ⟨some 101, .binOp .leq 3 (.tmp 99) (.tmp 100) 3, none, false⟩,
   ⟨some 102, .move (.tmp 101), none, false⟩,
   ⟨some 103, .move (.tmp 10), some (102, true), false⟩,
   ⟨some 104, .move (.tmp 8), some (102, true), false⟩,
   ⟨some 105, .call { callee := (.value (.func 198)), args := #[(.tmp 104)], argTypes := #[3] }, some (102, true), false⟩,
   ⟨some 106, .binOp .gtr 3 (.tmp 103) (.tmp 105) 3, some (102, true), false⟩,
   ⟨some 107, .pick (.tmp 102) (.tmp 106) (.const (.bool false)), none, false⟩])
 (.cond (.tmp 107)
 (.seq (.reg [⟨some 108, .move (.tmp 0), none, false⟩,
   ⟨some 109, .move (.tmp 8), none, false⟩,
   ⟨some 110, .slice 9 (.tmp 108) (some (.tmp 109)) none none, none, false⟩,
   ⟨some 111, .move (.tmp 1), none, false⟩,
   ⟨some 112, .call { callee := (.value (.func 199)), args := #[(.tmp 110), (.tmp 111)], argTypes := #[9, 9] }, none, false⟩,
   ⟨some 12, .assign (.tmp 112), none, false⟩])
 (.seq (.seq (.reg [⟨some 113, .move (.tmp 12), none, false⟩,
   ⟨some 114, .binOp .geq 3 (.tmp 113) (.const (.int .i64 0)) 3, none, false⟩])
 (.cond (.tmp 114)
 (.seq (.reg [⟨some 115, .move (.tmp 12), none, false⟩,
   ⟨some 116, .move (.tmp 8), none, false⟩,
   ⟨some 117, .binOp .add 3 (.tmp 115) (.tmp 116) 3, none, false⟩,
   ⟨some 4, .assign (.tmp 117), none, false⟩])
 (.ret))
 (.skip)))
 (.seq (.reg [⟨some 4, .assign (.const (.int .i64 (-1))), none, false⟩])
 (.ret))))
 (.seq (.reg [⟨some 118, .move (.tmp 5), none, false⟩,
   ⟨some 119, .load 3 (.global 3), none, false⟩,
   ⟨some 120, .binOp .gtr 3 (.tmp 118) (.tmp 119) 3, none, false⟩,
   ⟨some 121, .move (.tmp 120), none, false⟩,
   ⟨some 122, .move (.tmp 10), some (121, true), false⟩,
   ⟨some 123, .move (.tmp 8), some (121, true), false⟩,
   ⟨some 124, .binOp .shr 3 (.tmp 123) (.const (.int .u64 4)) 188, some (121, true), false⟩,
   ⟨some 125, .binOp .add 3 (.const (.int .i64 4)) (.tmp 124) 3, some (121, true), false⟩,
   ⟨some 126, .binOp .geq 3 (.tmp 122) (.tmp 125) 3, some (121, true), false⟩,
   ⟨some 127, .pick (.tmp 121) (.tmp 126) (.const (.bool false)), none, false⟩,
   ⟨some 128, .move (.tmp 127), none, false⟩,
   ⟨some 129, .move (.tmp 8), some (128, true), false⟩,
   ⟨some 130, .move (.tmp 9), some (128, true), false⟩,
   ⟨some 131, .binOp .lss 3 (.tmp 129) (.tmp 130) 3, some (128, true), false⟩,
   ⟨some 132, .pick (.tmp 128) (.tmp 131) (.const (.bool false)), none, false⟩])
 (.cond (.tmp 132)
 (.seq (.reg [⟨some 133, .move (.tmp 0), none, false⟩,
   ⟨some 134, .move (.tmp 8), none, false⟩,
   ⟨some 135, .slice 9 (.tmp 133) (some (.tmp 134)) none none, none, false⟩,
   ⟨some 136, .move (.tmp 1), none, false⟩,
   ⟨some 137, .call { callee := (.value (.func 231)), args := #[(.tmp 135), (.tmp 136)], argTypes := #[9, 9] }, none, false⟩,
   ⟨some 13, .assign (.tmp 137), none, false⟩])
 (.seq (.seq (.reg [⟨some 138, .move (.tmp 13), none, false⟩,
   ⟨some 139, .binOp .lss 3 (.tmp 138) (.const (.int .i64 0)) 3, none, false⟩])
 (.cond (.tmp 139)
 (.seq (.reg [⟨some 4, .assign (.const (.int .i64 (-1))), none, false⟩])
 (.ret))
 (.skip)))
 (.seq (.reg [⟨some 140, .move (.tmp 8), none, false⟩,
   ⟨some 141, .move (.tmp 13), none, false⟩,
   ⟨some 142, .binOp .add 3 (.tmp 140) (.tmp 141) 3, none, false⟩,
   ⟨some 4, .assign (.tmp 142), none, false⟩])
 (.ret))))
 (.skip)))))))))))))
 (.seq (.reg [⟨some 4, .assign (.const (.int .i64 (-1))), none, false⟩])
 (.ret))))))))))
def fr223 : FR := ⟨143, [.tmp 4], cc223⟩
theorem fnis223 : FnIs Tryz.prog 223 fr223 := ⟨Tryz.f223, _, [[0, 1, 5, 6, 7, 8, 9, 10]], [], Tryz.func223, rfl, by kernel_rfl, by kernel_rfl, by kernel_rfl, by kernel_rfl⟩
/-- function 225 -/
def cc225 : CC :=
 .seq (.reg [⟨some 4, .assign (.const (.int .i64 0)), none, false⟩])
 (.seq (.seq (.reg [⟨some 6, .move (.tmp 0), none, false⟩,
   ⟨some 7, .call { callee := (.builtin .len), args := #[(.tmp 6)], argTypes := #[206] }, none, false⟩,
   ⟨some 8, .move (.const (.int .i64 0)), none, false⟩])
 (.block 0
 (.loop [0, 1, 7, 8]
 (.seq (.reg [⟨some 9, .binOp .lss 3 (.tmp 8) (.tmp 7) 3, none, false⟩])
 (.seq (.cond (.tmp 9)
 (.skip)
 (.exit 0))
 (.seq (.block 1
 (.seq (.reg [⟨some 10, .move (.tmp 8), none, false⟩,
   ⟨some 5, .assign (.tmp 10), none, false⟩])
 (.seq (.reg [⟨some 11, .move (.tmp 1), none, false⟩,
   ⟨some 12, .move (.tmp 0), none, false⟩,
   ⟨some 13, .move (.tmp 5), none, false⟩,
   ⟨some 14, .indexAddr 206 (.tmp 12) (.tmp 13), none, false⟩,
   ⟨some 15, .load 198 (.tmp 14), none, false⟩,
   ⟨some 16, .call { callee := (.value (.tmp 11)), args := #[(.tmp 15)], argTypes := #[198] }, none, false⟩])
 (.cond (.tmp 16)
 (.seq (.reg [⟨some 17, .move (.tmp 5), none, false⟩,
   ⟨some 4, .assign (.tmp 17), none, false⟩])
 (.ret))
 (.skip)))))
 (.reg [⟨some 18, .binOp .add 3 (.tmp 8) (.const (.int .i64 1)) 3, none, false⟩,
   ⟨some 8, .move (.tmp 18), none, false⟩])))))))
 (.seq (.reg [⟨some 4, .assign (.const (.int .i64 (-1))), none, false⟩])
 (.ret)))
def fr225 : FR := ⟨19, [.tmp 4], cc225⟩
theorem fnis225 : FnIs Tryz.prog 225 fr225 := ⟨Tryz.f225, _, [[0, 1, 7, 8]], [], Tryz.func225, rfl, by kernel_rfl, by kernel_rfl, by kernel_rfl, by kernel_rfl⟩
/-- function 226 -/
def cc226 : CC :=
 .seq (.reg [⟨some 2, .box 198 (.tmp 0), none, false⟩,
   ⟨some 3, .assign (.const (.bool false)), none, false⟩])
 (.seq (.reg [⟨some 4, .fieldAddr 198 (.tmp 2) 0, none, false⟩,
   ⟨some 5, .load 9 (.tmp 4), none, false⟩,
   ⟨some 6, .load 9 (.tmp 1), none, false⟩,
   ⟨some 7, .binOp .eql 9 (.tmp 5) (.tmp 6) 9, none, false⟩,
   ⟨some 3, .assign (.tmp 7), none, false⟩])
 (.ret))
def fr226 : FR := ⟨8, [.tmp 3], cc226⟩
theorem fnis226 : FnIs Tryz.prog 226 fr226 := ⟨Tryz.f226, _, [], [], Tryz.func226, rfl, by kernel_rfl, by kernel_rfl, by kernel_rfl, by kernel_rfl⟩
/-- function 227 -/
def cc227 : CC :=
 .seq (.reg [⟨some 2, .assign (.const (.int .u64 0)), none, false⟩])
 (.seq (.cond (.const (.bool false))
 (.seq (.reg [⟨some 3, .move (.tmp 0), none, false⟩,
   ⟨some 4, .index 9 (.tmp 3) (.const (.int .i64 0)), none, false⟩,
   ⟨some 5, .convert 5 12 (.tmp 4), none, false⟩,
   ⟨some 6, .move (.tmp 0), none, false⟩,
   ⟨some 7, .index 9 (.tmp 6) (.const (.int .i64 1)), none, false⟩,
   ⟨some 8, .convert 5 12 (.tmp 7), none, false⟩,
   ⟨some 9, .binOp .shl 12 (.tmp 8) (.const (.int .u64 8)) 188, none, false⟩,
   ⟨some 10, .binOp .or 12 (.tmp 5) (.tmp 9) 12, none, false⟩,
   ⟨some 11, .move (.tmp 0), none, false⟩,
   ⟨some 12, .index 9 (.tmp 11) (.const (.int .i64 2)), none, false⟩,
   ⟨some 13, .convert 5 12 (.tmp 12), none, false⟩,
   ⟨some 14, .binOp .shl 12 (.tmp 13) (.const (.int .u64 16)) 188, none, false⟩,
   ⟨some 15, .binOp .or 12 (.tmp 10) (.tmp 14) 12, none, false⟩,
   ⟨some 16, .move (.tmp 0), none, false⟩,
   ⟨some 17, .index 9 (.tmp 16) (.const (.int .i64 3)), none, false⟩,
   ⟨some 18, .convert 5 12 (.tmp 17), none, false⟩,
   ⟨some 19, .binOp .shl 12 (.tmp 18) (.const (.int .u64 24)) 188, none, false⟩,
   ⟨some 20, .binOp .or 12 (.tmp 15) (.tmp 19) 12, none, false⟩,
   ⟨some 2, .assign (.tmp 20), none, false⟩])
 (.ret))
 (.skip))
 (.seq (.reg [⟨some 21, .move (.tmp 0), none, false⟩,
   ⟨some 22, .index 9 (.tmp 21) (.const (.int .i64 0)), none, false⟩,
   ⟨some 23, .convert 5 209 (.tmp 22), none, false⟩,
   ⟨some 24, .move (.tmp 0), none, false⟩,
   ⟨some 25, .index 9 (.tmp 24) (.const (.int .i64 1)), none, false⟩,
   ⟨some 26, .convert 5 209 (.tmp 25), none, false⟩,
   ⟨some 27, .binOp .shl 209 (.tmp 26) (.const (.int .u64 8)) 188, none, false⟩,
   ⟨some 28, .binOp .or 209 (.tmp 23) (.tmp 27) 209, none, false⟩,
   ⟨some 29, .move (.tmp 0), none, false⟩,
   ⟨some 30, .index 9 (.tmp 29) (.const (.int .i64 2)), none, false⟩,
   ⟨some 31, .convert 5 209 (.tmp 30), none, false⟩,
   ⟨some 32, .binOp .shl 209 (.tmp 31) (.const (.int .u64 16)) 188, none, false⟩,
   ⟨some 33, .binOp .or 209 (.tmp 28) (.tmp 32) 209, none, false⟩,
   ⟨some 34, .move (.tmp 0), none, false⟩,
   ⟨some 35, .index 9 (.tmp 34) (.const (.int .i64 3)), none, false⟩,
   ⟨some 36, .convert 5 209 (.tmp 35), none, false⟩,
   ⟨some 37, .binOp .shl 209 (.tmp 36) (.const (.int .u64 24)) 188, none, false⟩,
   ⟨some 38, .binOp .or 209 (.tmp 33) (.tmp 37) 209, none, false⟩,
   ⟨some 39, .move (.tmp 0), none, false⟩,
   ⟨some 40, .index 9 (.tmp 39) (.const (.int .i64 4)), none, false⟩,
   ⟨some 41, .convert 5 209 (.tmp 40), none, false⟩,
   ⟨some 42, .binOp .shl 209 (.tmp 41) (.const (.int .u64 32)) 188, none, false⟩,
   ⟨some 43, .binOp .or 209 (.tmp 38) (.tmp 42) 209, none, false⟩,
   ⟨some 44, .move (.tmp 0), none, false⟩,
   ⟨some 45, .index 9 (.tmp 44) (.const (.int .i64 5)), none, false⟩,
   ⟨some 46, .convert 5 209 (.tmp 45), none, false⟩,
   ⟨some 47, .binOp .shl 209 (.tmp 46) (.const (.int .u64 40)) 188, none, false⟩,
   ⟨some 48, .binOp .or 209 (.tmp 43) (.tmp 47) 209, none, false⟩,
   ⟨some 49, .move (.tmp 0), none, false⟩,
   ⟨some 50, .index 9 (.tmp 49) (.const (.int .i64 6)), none, false⟩,
   ⟨some 51, .convert 5 209 (.tmp 50), none, false⟩,
   ⟨some 52, .binOp .shl 209 (.tmp 51) (.const (.int .u64 48)) 188, none, false⟩,
   ⟨some 53, .binOp .or 209 (.tmp 48) (.tmp 52) 209, none, false⟩,
   ⟨some 54, .move (.tmp 0), none, false⟩,
   ⟨some 55, .index 9 (.tmp 54) (.const (.int .i64 7)), none, false⟩,
   ⟨some 56, .convert 5 209 (.tmp 55), none, false⟩,
   ⟨some 57, .binOp .shl 209 (.tmp 56) (.const (.int .u64 56)) 188, none, false⟩,
   ⟨some 58, .binOp .or 209 (.tmp 53) (.tmp 57) 209, none, false⟩,
   ⟨some 2, .assign (.tmp 58), none, false⟩])
 (.ret)))
def fr227 : FR := ⟨59, [.tmp 2], cc227⟩
theorem fnis227 : FnIs Tryz.prog 227 fr227 := ⟨Tryz.f227, _, [], [], Tryz.func227, rfl, by kernel_rfl, by kernel_rfl, by kernel_rfl, by kernel_rfl⟩
/-- function 228 -/
def cc228 : CC :=
 .seq (.reg [⟨some 4, .assign (.const (.int .i64 0)), none, false⟩])
 (.seq (.reg [⟨some 5, .move (.tmp 0), none, false⟩,
   ⟨some 6, .move (.tmp 1), none, false⟩,
   ⟨some 7, .call { callee := (.value (.func 223)), args := #[(.tmp 5), (.tmp 6)], argTypes := #[9, 9] }, none, false⟩,
   ⟨some 4, .assign (.tmp 7), none, false⟩])
 (.ret))
def fr228 : FR := ⟨8, [.tmp 4], cc228⟩
theorem fnis228 : FnIs Tryz.prog 228 fr228 := ⟨Tryz.f228, _, [], [], Tryz.func228, rfl, by kernel_rfl, by kernel_rfl, by kernel_rfl, by kernel_rfl⟩
/-- function 229 -/
def cc229 : CC :=
 .seq (.reg [⟨some 2, .assign (.const (.int .i64 0)), none, false⟩])
 (.seq (.reg [⟨some 5, .call { callee := (.value (.func 232)), args := #[], argTypes := #[] }, none, false⟩,
   ⟨some 3, .assign (.tmp 5), none, false⟩])
 (.seq (.seq (.reg [⟨some 4, .assign (.const (.int .i64 0)), none, false⟩])
 (.block 0
 (.loop [0, 3, 4]
 (.seq (.seq (.reg [⟨some 6, .move (.tmp 4), none, false⟩,
   ⟨some 7, .move (.tmp 3), none, false⟩,
   ⟨some 8, .call { callee := (.builtin .len), args := #[(.tmp 7)], argTypes := #[22] }, none, false⟩,
   ⟨some 9, .binOp .lss 3 (.tmp 6) (.tmp 8) 3, none, false⟩])
 (.cond (.tmp 9)
 (.skip)
 (.exit 0)))
 (.seq (.block 1
 (.seq (.reg [⟨some 12, .move (.tmp 3), none, false⟩,
   ⟨some 13, .move (.tmp 4), none, false⟩,
   ⟨some 14, .indexAddr 22 (.tmp 12) (.tmp 13), none, false⟩,
   ⟨some 15, .load 9 (.tmp 14), none, false⟩,
   ⟨some 16, .move (.tmp 0), none, false⟩,
   ⟨some 17, .binOp .eql 9 (.tmp 15) (.tmp 16) 9, none, false⟩])
 (.cond (.tmp 17)
 (.seq (.reg [⟨some 18, .move (.tmp 4), none, false⟩,
   ⟨some 2, .assign (.tmp 18), none, false⟩])
 (.ret))
 (.skip))))
 (.reg [⟨some 10, .move (.tmp 4), none, false⟩,
   ⟨some 11, .binOp .add 3 (.tmp 10) (.const (.int .i64 1)) 3, none, false⟩,
   ⟨some 4, .assign (.tmp 11), none, false⟩]))))))
 (.seq (.reg [⟨some 2, .assign (.const (.int .i64 (-1))), none, false⟩])
 (.ret))))
def fr229 : FR := ⟨19, [.tmp 2], cc229⟩
theorem fnis229 : FnIs Tryz.prog 229 fr229 := ⟨Tryz.f229, _, [[0, 3, 4]], [], Tryz.func229, rfl, by kernel_rfl, by kernel_rfl, by kernel_rfl, by kernel_rfl⟩
/-- function 230 -/
def cc230 : CC :=
 .seq (.reg [⟨some 2, .assign (.const (.int .i64 0)), none, false⟩])
 (.seq (.reg [⟨some 6, .move (.tmp 0), none, false⟩,
   ⟨some 7, .index 9 (.tmp 6) (.const (.int .i64 0)), none, false⟩,
   ⟨some 8, .convert 5 3 (.tmp 7), none, false⟩,
   ⟨some 3, .assign (.tmp 8), none, false⟩])
 (.seq (.block 0
 (.seq (.reg [⟨some 10, .move (.tmp 3), none, false⟩,
   ⟨some 11, .binOp .lss 3 (.tmp 10) (.const (.int .i64 128)) 3, none, false⟩,
   ⟨some 9, .assign (.tmp 11), none, false⟩])
 (.cond (.tmp 9)
 (.seq (.reg [⟨some 2, .assign (.const (.int .i64 1)), none, false⟩])
 (.ret))
 (.seq (.reg [⟨some 13, .move (.tmp 3), none, false⟩,
   ⟨some 14, .binOp .geq 3 (.tmp 13) (.const (.int .i64 194)) 3, none, false⟩,
   ⟨some 15, .move (.tmp 14), none, false⟩,
   ⟨some 16, .move (.tmp 3), some (15, true), false⟩,
   ⟨some 17, .binOp .lss 3 (.tmp 16) (.const (.int .i64 224)) 3, some (15, true), false⟩,
   ⟨some 18, .pick (.tmp 15) (.tmp 17) (.const (.bool false)), none, false⟩,
   ⟨some 19, .move (.tmp 18), none, false⟩,
   ⟨some 20, .move (.tmp 0), some (19, true), false⟩,
   ⟨some 21, .call { callee := (.value (.func 233)), args := #[(.tmp 20), (.const (.int .i64 1))], argTypes := #[9, 3] }, some (19, true), false⟩,
   ⟨some 22, .pick (.tmp 19) (.tmp 21) (.const (.bool false)), none, false⟩,
   ⟨some 12, .assign (.tmp 22), none, false⟩])
 (.cond (.tmp 12)
 (.seq (.reg [⟨some 2, .assign (.const (.int .i64 2)), none, false⟩])
 (.ret))
 (.seq (.reg [⟨some 24, .move (.tmp 3), none, false⟩,
   ⟨some 25, .binOp .geq 3 (.tmp 24) (.const (.int .i64 224)) 3, none, false⟩,
   ⟨some 26, .move (.tmp 25), none, false⟩,
   ⟨some 27, .move (.tmp 3), some (26, true), false⟩,
   ⟨some 28, .binOp .lss 3 (.tmp 27) (.const (.int .i64 240)) 3, some (26, true), false⟩,
   ⟨some 29, .pick (.tmp 26) (.tmp 28) (.const (.bool false)), none, false⟩,
   ⟨some 30, .move (.tmp 29), none, false⟩,
   ⟨some 31, .move (.tmp 0), some (30, true), false⟩,
   ⟨some 32, .call { callee := (.value (.func 233)), args := #[(.tmp 31), (.const (.int .i64 1))], argTypes := #[9, 3] }, some (30, true), false⟩,
   ⟨some 33, .pick (.tmp 30) (.tmp 32) (.const (.bool false)), none, false⟩,
   ⟨some 34, .move (.tmp 33), none, false⟩,
   ⟨some 35, .move (.tmp 0), some (34, true), false⟩,
   ⟨some 36, .call { callee := (.value (.func 233)), args := #[(.tmp 35), (.const (.int .i64 2))], argTypes := #[9, 3] }, some (34, true), false⟩,
   ⟨some 37, .pick (.tmp 34) (.tmp 36) (.const (.bool false)), none, false⟩,
   ⟨some 23, .assign (.tmp 37), none, false⟩])
 (.cond (.tmp 23)
 (.seq (.reg [⟨some 38, .move (.tmp 3), none, false⟩,
   ⟨some 39, .binOp .rem 3 (.tmp 38) (.const (.int .i64 16)) 3, none, false⟩,
   ⟨some 40, .binOp .mul 3 (.tmp 39) (.const (.int .i64 4096)) 3, none, false⟩,
   ⟨some 41, .move (.tmp 0), none, false⟩,
   ⟨some 42, .index 9 (.tmp 41) (.const (.int .i64 1)), none, false⟩,
   ⟨some 43, .binOp .rem 5 (.tmp 42) (.const (.int .u8 64)) 5, none, false⟩,
   ⟨some 44, .convert 5 3 (.tmp 43), none, false⟩,
   ⟨some 45, .binOp .mul 3 (.tmp 44) (.const (.int .i64 64)) 3, none, false⟩,
   ⟨some 46, .binOp .add 3 (.tmp 40) (.tmp 45) 3, none, false⟩,
   ⟨some 47, .move (.tmp 0), none, false⟩,
   ⟨some 48, .index 9 (.tmp 47) (.const (.int .i64 2)), none, false⟩,
   ⟨some 49, .binOp .rem 5 (.tmp 48) (.const (.int .u8 64)) 5, none, false⟩,
   ⟨some 50, .convert 5 3 (.tmp 49), none, false⟩,
   ⟨some 51, .binOp .add 3 (.tmp 46) (.tmp 50) 3, none, false⟩,
   ⟨some 4, .assign (.tmp 51), none, false⟩])
 (.seq (.reg [⟨some 52, .move (.tmp 4), none, false⟩,
   ⟨some 53, .binOp .geq 3 (.tmp 52) (.const (.int .i64 2048)) 3, none, false⟩,
   ⟨some 54, .move (.tmp 53), none, false⟩,
   ⟨some 55, .move (.tmp 4), some (54, true), false⟩,
   ⟨some 56, .binOp .lss 3 (.tmp 55) (.const (.int .i64 55296)) 3, some (54, true), false⟩,
   ⟨some 57, .move (.tmp 56), some (54, true), false⟩,
   ⟨some 58, .move (.tmp 4), some (57, false), false⟩,
   ⟨some 59, .binOp .gtr 3 (.tmp 58) (.const (.int .i64 57343)) 3, some (57, false), false⟩,
   ⟨some 60, .pick (.tmp 57) (.const (.bool true)) (.tmp 59), some (54, true), false⟩,
   ⟨some 61, .pick (.tmp 54) (.tmp 60) (.const (.bool false)), none, false⟩])
 (.cond (.tmp 61)
 (.seq (.reg [⟨some 2, .assign (.const (.int .i64 3)), none, false⟩])
 (.ret))
 (.skip))))
 (.seq (.reg [⟨some 63, .move (.tmp 3), none, false⟩,
   ⟨some 64, .binOp .geq 3 (.tmp 63) (.const (.int .i64 240)) 3, none, false⟩,
   ⟨some 65, .move (.tmp 64), none, false⟩,
   ⟨some 66, .move (.tmp 3), some (65, true), false⟩,
   ⟨some 67, .binOp .lss 3 (.tmp 66) (.const (.int .i64 245)) 3, some (65, true), false⟩,
   ⟨some 68, .pick (.tmp 65) (.tmp 67) (.const (.bool false)), none, false⟩,
   ⟨some 69, .move (.tmp 68), none, false⟩,
   ⟨some 70, .move (.tmp 0), some (69, true), false⟩,
   ⟨some 71, .call { callee := (.value (.func 233)), args := #[(.tmp 70), (.const (.int .i64 1))], argTypes := #[9, 3] }, some (69, true), false⟩,
   ⟨some 72, .pick (.tmp 69) (.tmp 71) (.const (.bool false)), none, false⟩,
   ⟨some 73, .move (.tmp 72), none, false⟩,
   ⟨some 74, .move (.tmp 0), some (73, true), false⟩,
   ⟨some 75, .call { callee := (.value (.func 233)), args := #[(.tmp 74), (.const (.int .i64 2))], argTypes := #[9, 3] }, some (73, true), false⟩,
   ⟨some 76, .pick (.tmp 73) (.tmp 75) (.const (.bool false)), none, false⟩,
   ⟨some 77, .move (.tmp 76), none, false⟩,
   ⟨some 78, .move (.tmp 0), some (77, true), false⟩,
   ⟨some 79, .call { callee := (.value (.func 233)), args := #[(.tmp 78), (.const (.int .i64 3))], argTypes := #[9, 3] }, some (77, true), false⟩,
   ⟨some 80, .pick (.tmp 77) (.tmp 79) (.const (.bool false)), none, false⟩,
   ⟨some 62, .assign (.tmp 80), none, false⟩])
 (.cond (.tmp 62)
 (.seq (.reg [⟨some 81, .move (.tmp 3), none, false⟩,
   ⟨some 82, .binOp .rem 3 (.tmp 81) (.const (.int .i64 8)) 3, none, false⟩,
   ⟨some 83, .binOp .mul 3 (.tmp 82) (.const (.int .i64 262144)) 3, none, false⟩,
   ⟨some 84, .move (.tmp 0), none, false⟩,
   ⟨some 85, .index 9 (.tmp 84) (.const (.int .i64 1)), none, false⟩,
   ⟨some 86, .binOp .rem 5 (.tmp 85) (.const (.int .u8 64)) 5, none, false⟩,
   ⟨some 87, .convert 5 3 (.tmp 86), none, false⟩,
   ⟨some 88, .binOp .mul 3 (.tmp 87) (.const (.int .i64 4096)) 3, none, false⟩,
   ⟨some 89, .binOp .add 3 (.tmp 83) (.tmp 88) 3, none, false⟩,
   ⟨some 90, .move (.tmp 0), none, false⟩,
   ⟨some 91, .index 9 (.tmp 90) (.const (.int .i64 2)), none, false⟩,
   ⟨some 92, .binOp .rem 5 (.tmp 91) (.const (.int .u8 64)) 5, none, false⟩,
   ⟨some 93, .convert 5 3 (.tmp 92), none, false⟩,
   ⟨some 94, .binOp .mul 3 (.tmp 93) (.const (.int .i64 64)) 3, none, false⟩,
   ⟨some 95, .binOp .add 3 (.tmp 89) (.tmp 94) 3, none, false⟩,
   ⟨some 96, .move (.tmp 0), none, false⟩,
   ⟨some 97, .index 9 (.tmp 96) (.const (.int .i64 3)), none, false⟩,
   ⟨some 98, .binOp .rem 5 (.tmp 97) (.const (.int .u8 64)) 5, none, false⟩,
   ⟨some 99, .convert 5 3 (.tmp 98), none, false⟩,
   ⟨some 100, .binOp .add 3 (.tmp 95) (.tmp 99) 3, none, false⟩,
   ⟨some 5, .assign (.tmp 100), none, false⟩])
 (.seq (.reg [⟨some 101, .move (.tmp 5), none, false⟩,
   ⟨some 102, .binOp .geq 3 (.tmp 101) (.const (.int .i64 65536)) 3, none, false⟩,
   ⟨some 103, .move (.tmp 102), none, false⟩,
   ⟨some 104, .move (.tmp 5), some (103, true), false⟩,
   ⟨some 105, .binOp .leq 3 (.tmp 104) (.const (.int .i64 1114111)) 3, some (103, true), false⟩,
   ⟨some 106, .pick (.tmp 103) (.tmp 105) (.const (.bool false)), none, false⟩])
 (.cond (.tmp 106)
 (.seq (.reg [⟨some 2, .assign (.const (.int .i64 4)), none, false⟩])
 (.ret))
 (.skip))))
 (.skip))))))))))
 (.seq (.reg [⟨some 2, .assign (.const (.int .i64 0)), none, false⟩])
 (.ret))))
def fr230 : FR := ⟨107, [.tmp 2], cc230⟩
theorem fnis230 : FnIs Tryz.prog 230 fr230 := ⟨Tryz.f230, _, [], [], Tryz.func230, rfl, by kernel_rfl, by kernel_rfl, by kernel_rfl, by kernel_rfl⟩
/-- function 231 -/
def cc231 : CC :=
 .seq (.reg [⟨some 4, .assign (.const (.int .i64 0)), none, false⟩])
 (.seq (.reg [⟨some 12, .move (.tmp 1), none, false⟩,
   ⟨some 13, .call { callee := (.value (.func 234)), args := #[(.tmp 12)], argTypes := #[9] }, none, false⟩,
   ⟨some 11, .move (.tmp 13), none, false⟩,
   ⟨some 14, .extract (.tmp 11) 0, none, false⟩,
   ⟨some 15, .extract (.tmp 11) 1, none, false⟩,
   ⟨some 5, .assign (.tmp 14), none, false⟩,
   ⟨some 6, .assign (.tmp 15), none, false⟩])
 (.seq (.reg [⟨some 16, .move (.tmp 1), none, false⟩,
   ⟨some 17, .call { callee := (.builtin .len), args := #[(.tmp 16)], argTypes := #[9] }, none, false⟩,
   ⟨some 7, .assign (.tmp 17), none, false⟩])
 (.seq (.reg [⟨some 8, .assign (.const (.int .u32 0)), none, false⟩])
 (.seq (.seq (.reg [⟨some 9, .assign (.const (.int .i64 0)), none, false⟩])
 (.block 0
 (.loop [0, 1, 5, 6, 7, 8, 9]
 (.seq (.seq (.reg [⟨some 18, .move (.tmp 9), none, false⟩,
   ⟨some 19, .move (.tmp 7), none, false⟩,
   ⟨some 20, .binOp .lss 3 (.tmp 18) (.tmp 19) 3, none, false⟩])
 (.cond (.tmp 20)
 (.skip)
 (.exit 0)))
 (.seq (.block 1
 (.reg [⟨some 23, .move (.tmp 8), none, false⟩,
   ⟨some 24, .binOp .mul 212 (.tmp 23) (.const (.int .u32 16777619)) 212, none, false⟩,
   ⟨some 25, .move (.tmp 0), none, false⟩,
   ⟨some 26, .move (.tmp 9), none, false⟩,
   ⟨some 27, .index 9 (.tmp 25) (.tmp 26), none, false⟩,
   ⟨some 28, .convert 5 212 (.tmp 27), none, false⟩,
   ⟨some 29, .binOp .add 212 (.tmp 24) (.tmp 28) 212, none, false⟩,
   ⟨some 8, .assign (.tmp 29), none, false⟩]))
 (.reg [⟨some 21, .move (.tmp 9), none, false⟩,
   ⟨some 22, .binOp .add 3 (.tmp 21) (.const (.int .i64 1)) 3, none, false⟩,
   ⟨some 9, .assign (.tmp 22), none, false⟩]))))))
 (.seq (.seq (.reg [⟨some 30, .move (.tmp 8), none, false⟩,
   ⟨some 31, .move (.tmp 5), none, false⟩,
   ⟨some 32, .binOp .eql 212 (.tmp 30) (.tmp 31) 212, none, false⟩,
   ⟨some 33, .move (.tmp 32), none, false⟩,
   ⟨some 34, .move (.tmp 0), some (33, true), false⟩,
   ⟨some 35, .move (.tmp 7), some (33, true), false⟩,
   ⟨some 36, .slice 9 (.tmp 34) none (some (.tmp 35)) none, some (33, true), false⟩,
   ⟨some 37, .move (.tmp 1), some (33, true), false⟩,
   ⟨some 38, .binOp .eql 9 (.tmp 36) (.tmp 37) 9, some (33, true), false⟩,
   ⟨some 39, .pick (.tmp 33) (.tmp 38) (.const (.bool false)), none, false⟩])
 (.cond (.tmp 39)
 (.seq (.reg [⟨some 4, .assign (.const (.int .i64 0)), none, false⟩])
 (.ret))
 (.skip)))
 (.seq (.seq (.reg [⟨some 40, .move (.tmp 7), none, false⟩,
   ⟨some 10, .assign (.tmp 40), none, false⟩])
 (.block 2
 (.loop [0, 1, 5, 6, 7, 8, 10]
 (.seq (.seq (.reg [⟨some 41, .move (.tmp 10), none, false⟩,
   ⟨some 42, .move (.tmp 0), none, false⟩,
   ⟨some 43, .call { callee := (.builtin .len), args := #[(.tmp 42)], argTypes := #[9] }, none, false⟩,
   ⟨some 44, .binOp .lss 3 (.tmp 41) (.tmp 43) 3, none, false⟩])
 (.cond (.tmp 44)
 (.skip)
 (.exit 2)))
 (.block 3
 (.seq (.reg [⟨some 45, .move (.tmp 8), none, false⟩,
   ⟨some 46, .binOp .mul 212 (.tmp 45) (.const (.int .u32 16777619)) 212, none, false⟩,
   ⟨some 8, .assign (.tmp 46), none, false⟩])
 (.seq (.reg [⟨some 47, .move (.tmp 8), none, false⟩,
   ⟨some 48, .move (.tmp 0), none, false⟩,
   ⟨some 49, .move (.tmp 10), none, false⟩,
   ⟨some 50, .index 9 (.tmp 48) (.tmp 49), none, false⟩,
   ⟨some 51, .convert 5 212 (.tmp 50), none, false⟩,
   ⟨some 52, .binOp .add 212 (.tmp 47) (.tmp 51) 212, none, false⟩,
   ⟨some 8, .assign (.tmp 52), none, false⟩])
 (.seq (.reg [⟨some 53, .move (.tmp 8), none, false⟩,
   ⟨some 54, .move (.tmp 6), none, false⟩,
   ⟨some 55, .move (.tmp 0), none, false⟩,
   ⟨some 56, .move (.tmp 10), none, false⟩,
   ⟨some 57, .move (.tmp 7), none, false⟩,
   ⟨some 58, .binOp .sub 3 (.tmp 56) (.tmp 57) 3, none, false⟩,
   ⟨some 59, .index 9 (.tmp 55) (.tmp 58), none, false⟩,
   ⟨some 60, .convert 5 212 (.tmp 59), none, false⟩,
   ⟨some 61, .binOp .mul 212 (.tmp 54) (.tmp 60) 212, none, false⟩,
   ⟨some 62, .binOp .sub 212 (.tmp 53) (.tmp 61) 212, none, false⟩,
   ⟨some 8, .assign (.tmp 62), none, false⟩])
 (.seq (.reg [⟨some 63, .move (.tmp 10), none, false⟩,
   ⟨some 64, .binOp .add 3 (.tmp 63) (.const (.int .i64 1)) 3, none, false⟩,
   ⟨some 10, .assign (.tmp 64), none, false⟩])
 (.seq (.reg [⟨some 65, .move (.tmp 8), none, false⟩,
   ⟨some 66, .move (.tmp 5), none, false⟩,
   ⟨some 67, .binOp .eql 212 (.tmp 65) (.tmp 66) 212, none, false⟩,
   ⟨some 68, .move (.tmp 67), none, false⟩,
   ⟨some 69, .move (.tmp 0), some (68, true), false⟩,
   ⟨some 70, .move (.tmp 10), some (68, true), false⟩,
   ⟨some 71, .move (.tmp 7), some (68, true), false⟩,
   ⟨some 72, .binOp .sub 3 (.tmp 70) (.tmp 71) 3, some (68, true), false⟩,
   ⟨some 73, .move (.tmp 10), some (68, true), false⟩,
   ⟨some 74, .slice 9 (.tmp 69) (some (.tmp 72)) (some (.tmp 73)) none, some (68, true), false⟩,
   ⟨some 75, .move (.tmp 1), some (68, true), false⟩,
   ⟨some 76, .binOp .eql 9 (.tmp 74) (.tmp 75) 9, some (68, true), false⟩,
   ⟨some 77, .pick (.tmp 68) (.tmp 76) (.const (.bool false)), none, false⟩])
 (.cond (.tmp 77)
 (.seq (.reg [⟨some 78, .move (.tmp 10), none, false⟩,
   ⟨some 79, .move (.tmp 7), none, false⟩,
   ⟨some 80, .binOp .sub 3 (.tmp 78) (.tmp 79) 3, none, false⟩,
   ⟨some 4, .assign (.tmp 80), none, false⟩])
 (.ret))
 (.skip))))))))))))
 (.seq (.reg [⟨some 4, .assign (.const (.int .i64 (-1))), none, false⟩])
 (.ret))))))))
def fr231 : FR := ⟨81, [.tmp 4], cc231⟩
theorem fnis231 : FnIs Tryz.prog 231 fr231 := ⟨Tryz.f231, _, [[0, 1, 5, 6, 7, 8, 9], [0, 1, 5, 6, 7, 8, 10]], [], Tryz.func231, rfl, by kernel_rfl, by kernel_rfl, by kernel_rfl, by kernel_rfl⟩
/-- function 232 -/
def cc232 : CC :=
 .seq (.reg [⟨some 0, .assign (.const (.slice none 0 0)), none, false⟩])
 (.seq (.reg [⟨some 1, .buildSlice 22 42 #[(0, (.const (.string { data := #[105, 110, 116] }))), (1, (.const (.string { data := #[116, 114, 117, 101] }))), (2, (.const (.string { data := #[102, 97, 108, 115, 101] }))), (3, (.const (.string { data := #[119, 111, 114, 100] }))), (4, (.const (.string { data := #[110, 117, 108, 108] }))), (5, (.const (.string { data := #[108, 111, 97, 100] }))), (6, (.const (.string { data := #[115, 116, 111, 114, 101] }))), (7, (.const (.string { data := #[112, 111, 112] }))), (8, (.const (.string { data := #[100, 117, 112] }))), (9, (.const (.string { data := #[115, 119, 97, 112] }))), (10, (.const (.string { data := #[97, 100, 100] }))), (11, (.const (.string { data := #[115, 117, 98] }))), (12, (.const (.string { data := #[109, 117, 108] }))), (13, (.const (.string { data := #[100, 105, 118] }))), (14, (.const (.string { data := #[114, 101, 109] }))), (15, (.const (.string { data := #[110, 101, 103] }))), (16, (.const (.string { data := #[108, 101, 115, 115] }))), (17, (.const (.string { data := #[115, 97, 109, 101] }))), (18, (.const (.string { data := #[110, 111, 116] }))), (19, (.const (.string { data := #[98, 111, 116, 104] }))), (20, (.const (.string { data := #[106, 111, 105, 110] }))), (21, (.const (.string { data := #[115, 105, 122, 101] }))), (22, (.const (.string { data := #[106, 117, 109, 112] }))), (23, (.const (.string { data := #[98, 114, 97, 110, 99, 104] }))), (24, (.const (.string { data := #[110, 101, 119] }))), (25, (.const (.string { data := #[103, 101, 116] }))), (26, (.const (.string { data := #[112, 117, 116] }))), (27, (.const (.string { data := #[99, 97, 108, 108] }))), (28, (.const (.string { data := #[97, 114, 114, 97, 121] }))), (29, (.const (.string { data := #[97, 116] }))), (30, (.const (.string { data := #[115, 101, 116] }))), (31, (.const (.string { data := #[105, 115] }))), (32, (.const (.string { data := #[99, 97, 115, 116] }))), (33, (.const (.string { data := #[114, 101, 116, 117, 114, 110] }))), (34, (.const (.string { data := #[116, 104, 114, 111, 119] }))), (35, (.const (.string { data := #[111, 117, 116] }))), (36, (.const (.string { data := #[101, 113, 117, 97, 108] }))), (37, (.const (.string { data := #[97, 110, 100] }))), (38, (.const (.string { data := #[111, 114] }))), (39, (.const (.string { data := #[120, 111, 114] }))), (40, (.const (.string { data := #[115, 104, 108] }))), (41, (.const (.string { data := #[115, 104, 114] })))], none, false⟩,
   ⟨some 0, .assign (.tmp 1), none, false⟩])
 (.ret))
def fr232 : FR := ⟨2, [.tmp 0], cc232⟩
theorem fnis232 : FnIs Tryz.prog 232 fr232 := ⟨Tryz.f232, _, [], [], Tryz.func232, rfl, by kernel_rfl, by kernel_rfl, by kernel_rfl, by kernel_rfl⟩
/-- function 233 -/
def cc233 : CC :=
 .seq (.reg [⟨some 4, .assign (.const (.bool false)), none, false⟩])
 (.seq (.reg [⟨some 5, .move (.tmp 1), none, false⟩,
   ⟨some 6, .move (.tmp 0), none, false⟩,
   ⟨some 7, .call { callee := (.builtin .len), args := #[(.tmp 6)], argTypes := #[9] }, none, false⟩,
   ⟨some 8, .binOp .lss 3 (.tmp 5) (.tmp 7) 3, none, false⟩,
   ⟨some 9, .move (.tmp 8), none, false⟩,
   ⟨some 10, .move (.tmp 0), some (9, true), false⟩,
   ⟨some 11, .move (.tmp 1), some (9, true), false⟩,
   ⟨some 12, .index 9 (.tmp 10) (.tmp 11), some (9, true), false⟩,
   ⟨some 13, .binOp .geq 5 (.tmp 12) (.const (.int .u8 128)) 5, some (9, true), false⟩,
   ⟨some 14, .pick (.tmp 9) (.tmp 13) (.const (.bool false)), none, false⟩,
   ⟨some 15, .move (.tmp 14), none, false⟩,
   ⟨some 16, .move (.tmp 0), some (15, true), false⟩,
   ⟨some 17, .move (.tmp 1), some (15, true), false⟩,
   ⟨some 18, .index 9 (.tmp 16) (.tmp 17), some (15, true), false⟩,
   ⟨some 19, .binOp .lss 5 (.tmp 18) (.const (.int .u8 192)) 5, some (15, true), false⟩,
   ⟨some 20, .pick (.tmp 15) (.tmp 19) (.const (.bool false)), none, false⟩,
   ⟨some 4, .assign (.tmp 20), none, false⟩])
 (.ret))
def fr233 : FR := ⟨21, [.tmp 4], cc233⟩
theorem fnis233 : FnIs Tryz.prog 233 fr233 := ⟨Tryz.f233, _, [], [], Tryz.func233, rfl, by kernel_rfl, by kernel_rfl, by kernel_rfl, by kernel_rfl⟩
/-- function 234 -/
def cc234 : CC :=
 .seq (.reg [⟨some 2, .assign (.const (.int .u32 0)), none, false⟩,
   ⟨some 3, .assign (.const (.int .u32 0)), none, false⟩])
 (.seq (.reg [⟨some 4, .assign (.const (.int .u32 0)), none, false⟩])
 (.seq (.seq (.reg [⟨some 5, .assign (.const (.int .i64 0)), none, false⟩])
 (.block 0
 (.loop [0, 4, 5]
 (.seq (.seq (.reg [⟨some 9, .move (.tmp 5), none, false⟩,
   ⟨some 10, .move (.tmp 0), none, false⟩,
   ⟨some 11, .call { callee := (.builtin .len), args := #[(.tmp 10)], argTypes := #[9] }, none, false⟩,
   ⟨some 12, .binOp .lss 3 (.tmp 9) (.tmp 11) 3, none, false⟩])
 (.cond (.tmp 12)
 (.skip)
 (.exit 0)))
 (.seq (.block 1
 (.reg [⟨some 15, .move (.tmp 4), none, false⟩,
   ⟨some 16, .binOp .mul 212 (.tmp 15) (.const (.int .u32 16777619)) 212, none, false⟩,
   ⟨some 17, .move (.tmp 0), none, false⟩,
   ⟨some 18, .move (.tmp 5), none, false⟩,
   ⟨some 19, .index 9 (.tmp 17) (.tmp 18), none, false⟩,
   ⟨some 20, .convert 5 212 (.tmp 19), none, false⟩,
   ⟨some 21, .binOp .add 212 (.tmp 16) (.tmp 20) 212, none, false⟩,
   ⟨some 4, .assign (.tmp 21), none, false⟩]))
 (.reg [⟨some 13, .move (.tmp 5), none, false⟩,
   ⟨some 14, .binOp .add 3 (.tmp 13) (.const (.int .i64 1)) 3, none, false⟩,
   ⟨some 5, .assign (.tmp 14), none, false⟩]))))))
 (.seq (.reg [⟨some 6, .assign (.const (.int .u32 1)), none, false⟩,
   ⟨some 7, .assign (.const (.int .u32 16777619)), none, false⟩])
 (.seq (.seq (.reg [⟨some 22, .move (.tmp 0), none, false⟩,
   ⟨some 23, .call { callee := (.builtin .len), args := #[(.tmp 22)], argTypes := #[9] }, none, false⟩,
   ⟨some 8, .assign (.tmp 23), none, false⟩])
 (.block 2
 (.loop [4, 6, 7, 8]
 (.seq (.seq (.reg [⟨some 24, .move (.tmp 8), none, false⟩,
   ⟨some 25, .binOp .gtr 3 (.tmp 24) (.const (.int .i64 0)) 3, none, false⟩])
 (.cond (.tmp 25)
 (.skip)
 (.exit 2)))
 (.seq (.block 3
 (.seq (.seq (.reg [⟨some 28, .move (.tmp 8), none, false⟩,
   ⟨some 29, .binOp .and 3 (.tmp 28) (.const (.int .i64 1)) 3, none, false⟩,
   ⟨some 30, .binOp .neq 3 (.tmp 29) (.const (.int .i64 0)) 3, none, false⟩])
 (.cond (.tmp 30)
 (.reg [⟨some 31, .move (.tmp 6), none, false⟩,
   ⟨some 32, .move (.tmp 7), none, false⟩,
   ⟨some 33, .binOp .mul 212 (.tmp 31) (.tmp 32) 212, none, false⟩,
   ⟨some 6, .assign (.tmp 33), none, false⟩])
 (.skip)))
 (.reg [⟨some 34, .move (.tmp 7), none, false⟩,
   ⟨some 35, .move (.tmp 7), none, false⟩,
   ⟨some 36, .binOp .mul 212 (.tmp 34) (.tmp 35) 212, none, false⟩,
   ⟨some 7, .assign (.tmp 36), none, false⟩])))
 (.reg [⟨some 26, .move (.tmp 8), none, false⟩,
   ⟨some 27, .binOp .shr 3 (.tmp 26) (.const (.int .u64 1)) 188, none, false⟩,
   ⟨some 8, .assign (.tmp 27), none, false⟩]))))))
 (.seq (.reg [⟨some 37, .move (.tmp 4), none, false⟩,
   ⟨some 38, .move (.tmp 6), none, false⟩,
   ⟨some 2, .assign (.tmp 37), none, false⟩,
   ⟨some 3, .assign (.tmp 38), none, false⟩])
 (.ret))))))
def fr234 : FR := ⟨39, [.tmp 2, .tmp 3], cc234⟩
theorem fnis234 : FnIs Tryz.prog 234 fr234 := ⟨Tryz.f234, _, [[0, 4, 5], [4, 6, 7, 8]], [], Tryz.func234, rfl, by kernel_rfl, by kernel_rfl, by kernel_rfl, by kernel_rfl⟩
/-- function 259 -/
def cc259 : CC :=
 .seq (.reg [⟨some 0, .build 194 #[(0, (.const (.int .u8 128))), (1, (.const (.int .u8 191)))], none, false⟩,
   ⟨some 1, .build 194 #[(0, (.const (.int .u8 160))), (1, (.const (.int .u8 191)))], none, false⟩,
   ⟨some 2, .build 194 #[(0, (.const (.int .u8 128))), (1, (.const (.int .u8 159)))], none, false⟩,
   ⟨some 3, .build 194 #[(0, (.const (.int .u8 144))), (1, (.const (.int .u8 191)))], none, false⟩,
   ⟨some 4, .build 194 #[(0, (.const (.int .u8 128))), (1, (.const (.int .u8 143)))], none, false⟩,
   ⟨some 5, .build 195 #[(0, (.tmp 0)), (1, (.tmp 1)), (2, (.tmp 2)), (3, (.tmp 3)), (4, (.tmp 4))], none, false⟩,
   ⟨none, .store 195 (.global 2) (.tmp 5), none, false⟩])
 (.seq (.reg [⟨some 6, .build 198 #[(0, (.const (.string { data := #[105, 110, 116] }))), (1, (.const (.bool true))), (2, (.const (.bool false)))], none, false⟩,
   ⟨some 7, .build 198 #[(0, (.const (.string { data := #[116, 114, 117, 101] }))), (1, (.const (.bool false))), (2, (.const (.bool false)))], none, false⟩,
   ⟨some 8, .build 198 #[(0, (.const (.string { data := #[102, 97, 108, 115, 101] }))), (1, (.const (.bool false))), (2, (.const (.bool false)))], none, false⟩,
   ⟨some 9, .build 198 #[(0, (.const (.string { data := #[119, 111, 114, 100] }))), (1, (.const (.bool false))), (2, (.const (.bool true)))], none, false⟩,
   ⟨some 10, .build 198 #[(0, (.const (.string { data := #[110, 117, 108, 108] }))), (1, (.const (.bool false))), (2, (.const (.bool false)))], none, false⟩,
   ⟨some 11, .build 198 #[(0, (.const (.string { data := #[108, 111, 97, 100] }))), (1, (.const (.bool true))), (2, (.const (.bool false)))], none, false⟩,
   ⟨some 12, .build 198 #[(0, (.const (.string { data := #[115, 116, 111, 114, 101] }))), (1, (.const (.bool true))), (2, (.const (.bool false)))], none, false⟩,
   ⟨some 13, .build 198 #[(0, (.const (.string { data := #[112, 111, 112] }))), (1, (.const (.bool false))), (2, (.const (.bool false)))], none, false⟩,
   ⟨some 14, .build 198 #[(0, (.const (.string { data := #[100, 117, 112] }))), (1, (.const (.bool false))), (2, (.const (.bool false)))], none, false⟩,
   ⟨some 15, .build 198 #[(0, (.const (.string { data := #[115, 119, 97, 112] }))), (1, (.const (.bool false))), (2, (.const (.bool false)))], none, false⟩,
   ⟨some 16, .build 198 #[(0, (.const (.string { data := #[97, 100, 100] }))), (1, (.const (.bool false))), (2, (.const (.bool false)))], none, false⟩,
   ⟨some 17, .build 198 #[(0, (.const (.string { data := #[115, 117, 98] }))), (1, (.const (.bool false))), (2, (.const (.bool false)))], none, false⟩,
   ⟨some 18, .build 198 #[(0, (.const (.string { data := #[109, 117, 108] }))), (1, (.const (.bool false))), (2, (.const (.bool false)))], none, false⟩,
   ⟨some 19, .build 198 #[(0, (.const (.string { data := #[100, 105, 118] }))), (1, (.const (.bool false))), (2, (.const (.bool false)))], none, false⟩,
   ⟨some 20, .build 198 #[(0, (.const (.string { data := #[114, 101, 109] }))), (1, (.const (.bool false))), (2, (.const (.bool false)))], none, false⟩,
   ⟨some 21, .build 198 #[(0, (.const (.string { data := #[110, 101, 103] }))), (1, (.const (.bool false))), (2, (.const (.bool false)))], none, false⟩,
   ⟨some 22, .build 198 #[(0, (.const (.string { data := #[108, 101, 115, 115] }))), (1, (.const (.bool false))), (2, (.const (.bool false)))], none, false⟩,
   ⟨some 23, .build 198 #[(0, (.const (.string { data := #[115, 97, 109, 101] }))), (1, (.const (.bool false))), (2, (.const (.bool false)))], none, false⟩,
   ⟨some 24, .build 198 #[(0, (.const (.string { data := #[110, 111, 116] }))), (1, (.const (.bool false))), (2, (.const (.bool false)))], none, false⟩,
   ⟨some 25, .build 198 #[(0, (.const (.string { data := #[98, 111, 116, 104] }))), (1, (.const (.bool false))), (2, (.const (.bool false)))], none, false⟩,
   ⟨some 26, .build 198 #[(0, (.const (.string { data := #[106, 111, 105, 110] }))), (1, (.const (.bool false))), (2, (.const (.bool false)))], none, false⟩,
   ⟨some 27, .build 198 #[(0, (.const (.string { data := #[115, 105, 122, 101] }))), (1, (.const (.bool false))), (2, (.const (.bool false)))], none, false⟩,
   ⟨some 28, .build 198 #[(0, (.const (.string { data := #[106, 117, 109, 112] }))), (1, (.const (.bool true))), (2, (.const (.bool false)))], none, false⟩,
   ⟨some 29, .build 198 #[(0, (.const (.string { data := #[98, 114, 97, 110, 99, 104] }))), (1, (.const (.bool true))), (2, (.const (.bool false)))], none, false⟩,
   ⟨some 30, .build 198 #[(0, (.const (.string { data := #[110, 101, 119] }))), (1, (.const (.bool false))), (2, (.const (.bool true)))], none, false⟩,
   ⟨some 31, .build 198 #[(0, (.const (.string { data := #[103, 101, 116] }))), (1, (.const (.bool false))), (2, (.const (.bool true)))], none, false⟩,
   ⟨some 32, .build 198 #[(0, (.const (.string { data := #[112, 117, 116] }))), (1, (.const (.bool false))), (2, (.const (.bool true)))], none, false⟩,
   ⟨some 33, .build 198 #[(0, (.const (.string { data := #[99, 97, 108, 108] }))), (1, (.const (.bool false))), (2, (.const (.bool true)))], none, false⟩,
   ⟨some 34, .build 198 #[(0, (.const (.string { data := #[97, 114, 114, 97, 121] }))), (1, (.const (.bool false))), (2, (.const (.bool true)))], none, false⟩,
   ⟨some 35, .build 198 #[(0, (.const (.string { data := #[97, 116] }))), (1, (.const (.bool false))), (2, (.const (.bool false)))], none, false⟩,
   ⟨some 36, .build 198 #[(0, (.const (.string { data := #[115, 101, 116] }))), (1, (.const (.bool false))), (2, (.const (.bool false)))], none, false⟩,
   ⟨some 37, .build 198 #[(0, (.const (.string { data := #[105, 115] }))), (1, (.const (.bool false))), (2, (.const (.bool true)))], none, false⟩,
   ⟨some 38, .build 198 #[(0, (.const (.string { data := #[99, 97, 115, 116] }))), (1, (.const (.bool false))), (2, (.const (.bool true)))], none, false⟩,
   ⟨some 39, .build 198 #[(0, (.const (.string { data := #[114, 101, 116, 117, 114, 110] }))), (1, (.const (.bool false))), (2, (.const (.bool false)))], none, false⟩,
   ⟨some 40, .build 198 #[(0, (.const (.string { data := #[116, 104, 114, 111, 119] }))), (1, (.const (.bool false))), (2, (.const (.bool false)))], none, false⟩,
   ⟨some 41, .build 198 #[(0, (.const (.string { data := #[111, 117, 116] }))), (1, (.const (.bool false))), (2, (.const (.bool false)))], none, false⟩,
   ⟨some 42, .build 198 #[(0, (.const (.string { data := #[101, 113, 117, 97, 108] }))), (1, (.const (.bool false))), (2, (.const (.bool false)))], none, false⟩,
   ⟨some 43, .build 198 #[(0, (.const (.string { data := #[97, 110, 100] }))), (1, (.const (.bool false))), (2, (.const (.bool false)))], none, false⟩,
   ⟨some 44, .build 198 #[(0, (.const (.string { data := #[111, 114] }))), (1, (.const (.bool false))), (2, (.const (.bool false)))], none, false⟩,
   ⟨some 45, .build 198 #[(0, (.const (.string { data := #[120, 111, 114] }))), (1, (.const (.bool false))), (2, (.const (.bool false)))], none, false⟩,
   ⟨some 46, .build 198 #[(0, (.const (.string { data := #[115, 104, 108] }))), (1, (.const (.bool false))), (2, (.const (.bool false)))], none, false⟩,
   ⟨some 47, .build 198 #[(0, (.const (.string { data := #[115, 104, 114] }))), (1, (.const (.bool false))), (2, (.const (.bool false)))], none, false⟩,
   ⟨some 48, .build 199 #[(0, (.tmp 6)), (1, (.tmp 7)), (2, (.tmp 8)), (3, (.tmp 9)), (4, (.tmp 10)), (5, (.tmp 11)), (6, (.tmp 12)), (7, (.tmp 13)), (8, (.tmp 14)), (9, (.tmp 15)), (10, (.tmp 16)), (11, (.tmp 17)), (12, (.tmp 18)), (13, (.tmp 19)), (14, (.tmp 20)), (15, (.tmp 21)), (16, (.tmp 22)), (17, (.tmp 23)), (18, (.tmp 24)), (19, (.tmp 25)), (20, (.tmp 26)), (21, (.tmp 27)), (22, (.tmp 28)), (23, (.tmp 29)), (24, (.tmp 30)), (25, (.tmp 31)), (26, (.tmp 32)), (27, (.tmp 33)), (28, (.tmp 34)), (29, (.tmp 35)), (30, (.tmp 36)), (31, (.tmp 37)), (32, (.tmp 38)), (33, (.tmp 39)), (34, (.tmp 40)), (35, (.tmp 41)), (36, (.tmp 42)), (37, (.tmp 43)), (38, (.tmp 44)), (39, (.tmp 45)), (40, (.tmp 46)), (41, (.tmp 47))], none, false⟩,
   ⟨none, .store 199 (.global 4) (.tmp 48), none, false⟩])
 (.reg [⟨some 49, .build 102 #[(0, (.const (.string { data := #[78, 117, 108, 108, 70, 97, 117, 108, 116] }))), (1, (.const (.string { data := #[73, 110, 100, 101, 120, 70, 97, 117, 108, 116] }))), (2, (.const (.string { data := #[67, 97, 115, 116, 70, 97, 117, 108, 116] }))), (3, (.const (.string { data := #[90, 101, 114, 111, 70, 97, 117, 108, 116] }))), (4, (.const (.string { data := #[82, 111, 111, 109, 70, 97, 117, 108, 116] }))), (5, (.const (.string { data := #[67, 97, 108, 108, 70, 97, 117, 108, 116] })))], none, false⟩,
   ⟨none, .store 102 (.global 0) (.tmp 49), none, false⟩]))
def fr259 : FR := ⟨50, [], cc259⟩
theorem fnis259 : FnIs Tryz.prog 259 fr259 := ⟨Tryz.f259, _, [], [], Tryz.func259, rfl, by kernel_rfl, by kernel_rfl, by kernel_rfl, by kernel_rfl⟩
end Go.Proofs.YtijkkgloennglaaGreatDoor.Ab
