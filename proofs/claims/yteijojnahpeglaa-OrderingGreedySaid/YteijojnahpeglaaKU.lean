/- Stripped texts of functions, printed by gen.py out of the loaded program; Lean checks each against it. -/
import Derived.Test.YteijojnahpeglaaKT
import Derived.Test.YteijojnahpeglaaProg
import Derived.KernelRfl
/-! Stripped texts of functions, printed by gen.py out of the loaded program; Lean checks each against it. -/
namespace Go.Proofs.Yteijojnahpeglaa.AM
open Go Go.RowKit
set_option linter.unusedVariables false
set_option linter.defProp false
/-! ### function 82: codewright/field.multiply -/
def pl82 : Nat → Plan
  | 1 => [(0, []), (1, []), (2, []), (3, []), (4, []), (6, []), (7, []), (8, []), (9, []), (10, []), (5, [8, 10]), (11, []), (12, []), (13, [])]
  | 7 => [(0, []), (1, []), (2, []), (3, []), (4, []), (5, []), (6, []), (7, [])]
  | 15 => [(0, []), (1, []), (2, []), (3, []), (4, []), (5, []), (6, []), (7, []), (8, []), (9, []), (10, []), (11, []), (12, []), (13, []), (14, []), (15, []), (16, []), (17, []), (18, []), (19, []), (20, []), (21, []), (22, []), (23, []), (24, []), (25, []), (26, []), (27, [])]
  | _ => []
def s82 : SC :=
  .seq (.reg [⟨some 3, .box 24 (.tmp 0), none⟩,
    ⟨some 6, .assign (.const (.int .i64 0)), none⟩]) (.seq (.draw [(0, [], ⟨some 14, .move (.tmp 1), none⟩),
    (1, [], ⟨some 15, .fieldAddr 24 (.tmp 3) 0, none⟩),
    (2, [], ⟨some 16, .load 3 (.tmp 15), none⟩),
    (3, [], ⟨some 17, .fieldAddr 24 (.tmp 3) 1, none⟩),
    (4, [], ⟨some 18, .load 3 (.tmp 17), none⟩),
    (6, [], ⟨some 20, .move (.tmp 2), none⟩),
    (7, [], ⟨some 21, .fieldAddr 24 (.tmp 3) 0, none⟩),
    (8, [], ⟨some 22, .load 3 (.tmp 21), none⟩),
    (9, [], ⟨some 23, .fieldAddr 24 (.tmp 3) 1, none⟩),
    (10, [], ⟨some 24, .load 3 (.tmp 23), none⟩),
    (5, [8, 10], ⟨some 19, .call { callee := .value (.func 104), args := #[.tmp 14, .tmp 16, .tmp 18], argTypes := #[3, 3, 3] }, none⟩),
    (11, [], ⟨some 25, .call { callee := .value (.func 104), args := #[.tmp 20, .tmp 22, .tmp 24], argTypes := #[3, 3, 3] }, none⟩),
    (12, [], ⟨some 7, .assign (.tmp 19), none⟩),
    (13, [], ⟨some 8, .assign (.tmp 25), none⟩)]) (.seq (.reg [⟨some 26, .fieldAddr 24 (.tmp 3) 1, none⟩,
    ⟨some 27, .load 3 (.tmp 26), none⟩,
    ⟨some 28, .makeSlice 22 (.tmp 27) (.tmp 27), none⟩,
    ⟨some 9, .assign (.tmp 28), none⟩]) (.seq (.seq (.reg [⟨some 29, .fieldAddr 24 (.tmp 3) 1, none⟩,
    ⟨some 30, .load 3 (.tmp 29), none⟩,
    ⟨some 31, .binOp .sub 3 (.tmp 30) (.const (.int .i64 1)) 3, none⟩,
    ⟨some 10, .assign (.tmp 31), none⟩]) (.block 0 (.loop (.seq (.seq (.reg [⟨some 32, .move (.tmp 10), none⟩,
    ⟨some 33, .binOp .geq 3 (.tmp 32) (.const (.int .i64 0)) 3, none⟩]) (.cond (.tmp 33) .skip (.exit 0))) (.seq (.block 1 (.seq (.reg [⟨some 36, .move (.tmp 9), none⟩,
    ⟨some 37, .fieldAddr 24 (.tmp 3) 1, none⟩,
    ⟨some 38, .load 3 (.tmp 37), none⟩,
    ⟨some 39, .binOp .sub 3 (.tmp 38) (.const (.int .i64 1)) 3, none⟩,
    ⟨some 40, .indexAddr 22 (.tmp 36) (.tmp 39), none⟩,
    ⟨some 41, .load 3 (.tmp 40), none⟩,
    ⟨some 11, .assign (.tmp 41), none⟩]) (.seq (.draw [(0, [], ⟨some 42, .move (.tmp 9), none⟩),
    (1, [], ⟨some 43, .slice 22 (.tmp 42) (some (.const (.int .i64 1))) none none, none⟩),
    (2, [], ⟨some 44, .move (.tmp 9), none⟩),
    (3, [], ⟨some 45, .fieldAddr 24 (.tmp 3) 1, none⟩),
    (4, [], ⟨some 46, .load 3 (.tmp 45), none⟩),
    (5, [], ⟨some 47, .binOp .sub 3 (.tmp 46) (.const (.int .i64 1)) 3, none⟩),
    (6, [], ⟨some 48, .slice 22 (.tmp 44) none (some (.tmp 47)) none, none⟩),
    (7, [], ⟨some 49, .call { callee := .builtin .copy, args := #[.tmp 43, .tmp 48], argTypes := #[22, 22] }, none⟩)]) (.seq (.reg [⟨some 50, .move (.tmp 9), none⟩,
    ⟨some 51, .indexAddr 22 (.tmp 50) (.const (.int .i64 0)), none⟩,
    ⟨none, .store 3 (.tmp 51) (.const (.int .i64 0)), none⟩]) (.seq (.reg [⟨some 52, .move (.tmp 9), none⟩,
    ⟨some 53, .call { callee := .builtin .len, args := #[.tmp 52], argTypes := #[22] }, none⟩,
    ⟨some 54, .move (.const (.int .i64 0)), none⟩]) (.block 2 (.loop (.seq (.reg [⟨some 55, .binOp .lss 3 (.tmp 54) (.tmp 53) 3, none⟩]) (.seq (.cond (.tmp 55) .skip (.exit 2)) (.seq (.block 3 (.seq (.reg [⟨some 56, .move (.tmp 54), none⟩,
    ⟨some 12, .assign (.tmp 56), none⟩]) (.seq (.reg [⟨some 13, .assign (.const (.int .i64 0)), none⟩]) (.seq (.seq (.reg [⟨some 57, .fieldAddr 24 (.tmp 3) 1, none⟩,
    ⟨some 58, .load 3 (.tmp 57), none⟩,
    ⟨some 59, .binOp .gtr 3 (.tmp 58) (.const (.int .i64 1)) 3, none⟩]) (.cond (.tmp 59) (.reg [⟨some 60, .fieldAddr 24 (.tmp 3) 2, none⟩,
    ⟨some 61, .load 22 (.tmp 60), none⟩,
    ⟨some 62, .move (.tmp 12), none⟩,
    ⟨some 63, .indexAddr 22 (.tmp 61) (.tmp 62), none⟩,
    ⟨some 64, .load 3 (.tmp 63), none⟩,
    ⟨some 13, .assign (.tmp 64), none⟩]) .skip)) (.draw [(0, [], ⟨some 65, .move (.tmp 9), none⟩),
    (1, [], ⟨some 66, .move (.tmp 12), none⟩),
    (2, [], ⟨some 67, .move (.tmp 9), none⟩),
    (3, [], ⟨some 68, .move (.tmp 12), none⟩),
    (4, [], ⟨some 69, .indexAddr 22 (.tmp 67) (.tmp 68), none⟩),
    (5, [], ⟨some 70, .load 3 (.tmp 69), none⟩),
    (6, [], ⟨some 71, .fieldAddr 24 (.tmp 3) 0, none⟩),
    (7, [], ⟨some 72, .load 3 (.tmp 71), none⟩),
    (8, [], ⟨some 73, .move (.tmp 11), none⟩),
    (9, [], ⟨some 74, .binOp .sub 3 (.tmp 72) (.tmp 73) 3, none⟩),
    (10, [], ⟨some 75, .move (.tmp 13), none⟩),
    (11, [], ⟨some 76, .binOp .mul 3 (.tmp 74) (.tmp 75) 3, none⟩),
    (12, [], ⟨some 77, .binOp .add 3 (.tmp 70) (.tmp 76) 3, none⟩),
    (13, [], ⟨some 78, .move (.tmp 8), none⟩),
    (14, [], ⟨some 79, .move (.tmp 10), none⟩),
    (15, [], ⟨some 80, .indexAddr 22 (.tmp 78) (.tmp 79), none⟩),
    (16, [], ⟨some 81, .load 3 (.tmp 80), none⟩),
    (17, [], ⟨some 82, .move (.tmp 7), none⟩),
    (18, [], ⟨some 83, .move (.tmp 12), none⟩),
    (19, [], ⟨some 84, .indexAddr 22 (.tmp 82) (.tmp 83), none⟩),
    (20, [], ⟨some 85, .load 3 (.tmp 84), none⟩),
    (21, [], ⟨some 86, .binOp .mul 3 (.tmp 81) (.tmp 85) 3, none⟩),
    (22, [], ⟨some 87, .binOp .add 3 (.tmp 77) (.tmp 86) 3, none⟩),
    (23, [], ⟨some 88, .fieldAddr 24 (.tmp 3) 0, none⟩),
    (24, [], ⟨some 89, .load 3 (.tmp 88), none⟩),
    (25, [], ⟨some 90, .binOp .rem 3 (.tmp 87) (.tmp 89) 3, none⟩),
    (26, [], ⟨some 91, .indexAddr 22 (.tmp 65) (.tmp 66), none⟩),
    (27, [], ⟨none, .store 3 (.tmp 91) (.tmp 90), none⟩)]))))) (.reg [⟨some 92, .binOp .add 3 (.tmp 54) (.const (.int .i64 1)) 3, none⟩,
    ⟨some 54, .move (.tmp 92), none⟩]))))))))))) (.reg [⟨some 34, .move (.tmp 10), none⟩,
    ⟨some 35, .binOp .sub 3 (.tmp 34) (.const (.int .i64 1)) 3, none⟩,
    ⟨some 10, .assign (.tmp 35), none⟩])))))) (.seq (.reg [⟨some 93, .move (.tmp 9), none⟩,
    ⟨some 94, .fieldAddr 24 (.tmp 3) 0, none⟩,
    ⟨some 95, .load 3 (.tmp 94), none⟩,
    ⟨some 96, .call { callee := .value (.func 105), args := #[.tmp 93, .tmp 95], argTypes := #[22, 3] }, none⟩,
    ⟨some 6, .assign (.tmp 96), none⟩]) .ret))))
theorem at82 {args : List AV} {H : AH} {Q : AV → AH → Prop} (hl : args.length ≤ 97) (h : swp Try.prog s82 (fin Try.prog [.tmp 6] Q) (env0 args) H) : AC Try.prog 82 args H Q :=
  AC.of (pl82) Try.func82 rfl (by kernel_rfl) mixed (by kernel_rfl) (by kernel_rfl) rfl hl h
/-! ### function 83: codewright/matrix.Canonical -/
def s83 : SC :=
  .seq (.reg [⟨some 2, .box 24 (.tmp 0), none⟩,
    ⟨some 3, .box 59 (.tmp 1), none⟩,
    ⟨some 4, .alloc 59, none⟩,
    ⟨some 5, .assign (.const (.slice none 0 0)), none⟩,
    ⟨some 6, .assign (.const (.int .i64 0)), none⟩]) (.seq (.reg [⟨some 12, .load 24 (.tmp 2), none⟩,
    ⟨some 13, .load 59 (.tmp 3), none⟩,
    ⟨some 14, .buildSlice 93 1 #[(0, .tmp 13)], none⟩,
    ⟨some 15, .call { callee := .value (.func 56), args := #[.tmp 12, .tmp 14], argTypes := #[24, 93] }, none⟩,
    ⟨some 11, .move (.tmp 15), none⟩,
    ⟨some 16, .extract (.tmp 11) 0, none⟩,
    ⟨some 17, .extract (.tmp 11) 1, none⟩,
    ⟨some 7, .assign (.tmp 16), none⟩,
    ⟨some 8, .assign (.tmp 17), none⟩]) (.seq (.seq (.reg [⟨some 18, .move (.tmp 8), none⟩,
    ⟨some 19, .binOp .neq 28 (.tmp 18) (.const (.int .i64 0)) 28, none⟩]) (.cond (.tmp 19) (.seq (.reg [⟨some 20, .build 59 #[], none⟩,
    ⟨some 21, .move (.tmp 8), none⟩,
    ⟨none, .store 59 (.tmp 4) (.tmp 20), none⟩,
    ⟨some 5, .assign (.const (.slice none 0 0)), none⟩,
    ⟨some 6, .assign (.tmp 21), none⟩]) .ret) .skip)) (.seq (.reg [⟨some 23, .move (.tmp 7), none⟩,
    ⟨some 24, .fieldAddr 59 (.tmp 3) 1, none⟩,
    ⟨some 25, .load 25 (.tmp 24), none⟩,
    ⟨some 26, .fieldAddr 59 (.tmp 3) 0, none⟩,
    ⟨some 27, .load 3 (.tmp 26), none⟩,
    ⟨some 28, .call { callee := .value (.func 57), args := #[.tmp 23, .tmp 25, .tmp 27], argTypes := #[75, 25, 3] }, none⟩,
    ⟨some 22, .move (.tmp 28), none⟩,
    ⟨some 29, .extract (.tmp 22) 0, none⟩,
    ⟨some 30, .extract (.tmp 22) 1, none⟩,
    ⟨some 9, .assign (.tmp 29), none⟩,
    ⟨some 10, .assign (.tmp 30), none⟩]) (.seq (.reg [⟨some 31, .fieldAddr 59 (.tmp 3) 0, none⟩,
    ⟨some 32, .load 3 (.tmp 31), none⟩,
    ⟨some 33, .move (.tmp 9), none⟩,
    ⟨some 34, .build 59 #[(0, .tmp 32), (1, .tmp 33)], none⟩,
    ⟨some 35, .move (.tmp 10), none⟩,
    ⟨none, .store 59 (.tmp 4) (.tmp 34), none⟩,
    ⟨some 5, .assign (.tmp 35), none⟩,
    ⟨some 6, .assign (.const (.int .i64 0)), none⟩]) .ret))))
theorem at83 {args : List AV} {H : AH} {Q : AV → AH → Prop} (hl : args.length ≤ 36) (h : swp Try.prog s83 (fin Try.prog [.cell 4 59, .tmp 5, .tmp 6] Q) (env0 args) H) : AC Try.prog 83 args H Q :=
  AC.of (fun _ => []) Try.func83 rfl (by kernel_rfl) mixed (by kernel_rfl) (by kernel_rfl) rfl hl h
/-! ### function 84: slices.EqualFunc[[][]int,[][]int,[]int,[]int] -/
def s84 : SC :=
  .seq (.reg [⟨some 6, .assign (.const (.bool false)), none⟩]) (.seq (.seq (.reg [⟨some 10, .move (.tmp 0), none⟩,
    ⟨some 11, .call { callee := .builtin .len, args := #[.tmp 10], argTypes := #[25] }, none⟩,
    ⟨some 12, .move (.tmp 1), none⟩,
    ⟨some 13, .call { callee := .builtin .len, args := #[.tmp 12], argTypes := #[25] }, none⟩,
    ⟨some 14, .binOp .neq 3 (.tmp 11) (.tmp 13) 3, none⟩]) (.cond (.tmp 14) (.seq (.reg [⟨some 6, .assign (.const (.bool false)), none⟩]) .ret) .skip)) (.seq (.seq (.reg [⟨some 15, .move (.tmp 0), none⟩,
    ⟨some 16, .call { callee := .builtin .len, args := #[.tmp 15], argTypes := #[25] }, none⟩,
    ⟨some 17, .move (.const (.int .i64 0)), none⟩]) (.block 0 (.loop (.seq (.reg [⟨some 18, .binOp .lss 3 (.tmp 17) (.tmp 16) 3, none⟩]) (.seq (.cond (.tmp 18) .skip (.exit 0)) (.seq (.block 1 (.seq (.reg [⟨some 19, .move (.tmp 17), none⟩,
    ⟨some 20, .indexAddr 25 (.tmp 15) (.tmp 17), none⟩,
    ⟨some 21, .load 22 (.tmp 20), none⟩,
    ⟨some 7, .assign (.tmp 19), none⟩,
    ⟨some 8, .assign (.tmp 21), none⟩]) (.seq (.reg [⟨some 22, .move (.tmp 1), none⟩,
    ⟨some 23, .move (.tmp 7), none⟩,
    ⟨some 24, .indexAddr 25 (.tmp 22) (.tmp 23), none⟩,
    ⟨some 25, .load 22 (.tmp 24), none⟩,
    ⟨some 9, .assign (.tmp 25), none⟩]) (.seq (.reg [⟨some 26, .move (.tmp 2), none⟩,
    ⟨some 27, .move (.tmp 8), none⟩,
    ⟨some 28, .move (.tmp 9), none⟩,
    ⟨some 29, .call { callee := .value (.tmp 26), args := #[.tmp 27, .tmp 28], argTypes := #[22, 22] }, none⟩,
    ⟨some 30, .unOp .not 4 (.tmp 29), none⟩]) (.cond (.tmp 30) (.seq (.reg [⟨some 6, .assign (.const (.bool false)), none⟩]) .ret) .skip))))) (.reg [⟨some 31, .binOp .add 3 (.tmp 17) (.const (.int .i64 1)) 3, none⟩,
    ⟨some 17, .move (.tmp 31), none⟩]))))))) (.seq (.reg [⟨some 6, .assign (.const (.bool true)), none⟩]) .ret)))
theorem at84 {args : List AV} {H : AH} {Q : AV → AH → Prop} (hl : args.length ≤ 32) (h : swp Try.prog s84 (fin Try.prog [.tmp 6] Q) (env0 args) H) : AC Try.prog 84 args H Q :=
  AC.of (fun _ => []) Try.func84 rfl (by kernel_rfl) mixed (by kernel_rfl) (by kernel_rfl) rfl hl h
/-! ### function 85: codewright/infoset.open -/
def s85 : SC :=
  .seq (.reg [⟨some 1, .box 27 (.tmp 0), none⟩,
    ⟨some 2, .assign (.const (.pointer none)), none⟩,
    ⟨some 3, .assign (.const (.int .i64 0)), none⟩]) (.seq (.seq (.reg [⟨some 5, .load 27 (.tmp 1), none⟩,
    ⟨some 6, .call { callee := .value (.func 29), args := #[.tmp 5], argTypes := #[27] }, none⟩,
    ⟨some 4, .assign (.tmp 6), none⟩]) (.seq (.reg [⟨some 7, .move (.tmp 4), none⟩,
    ⟨some 8, .binOp .neq 28 (.tmp 7) (.const (.int .i64 0)) 28, none⟩]) (.cond (.tmp 8) (.seq (.reg [⟨some 9, .move (.tmp 4), none⟩,
    ⟨some 2, .assign (.const (.pointer none)), none⟩,
    ⟨some 3, .assign (.tmp 9), none⟩]) .ret) .skip))) (.seq (.reg [⟨some 10, .fieldAddr 27 (.tmp 1) 0, none⟩,
    ⟨some 11, .load 24 (.tmp 10), none⟩,
    ⟨some 12, .call { callee := .value (.func 73), args := #[.tmp 11], argTypes := #[24] }, none⟩,
    ⟨some 13, .extract (.tmp 12) 0, none⟩,
    ⟨some 14, .extract (.tmp 12) 1, none⟩,
    ⟨some 2, .assign (.tmp 13), none⟩,
    ⟨some 3, .assign (.tmp 14), none⟩]) .ret))
theorem at85 {args : List AV} {H : AH} {Q : AV → AH → Prop} (hl : args.length ≤ 15) (h : swp Try.prog s85 (fin Try.prog [.tmp 2, .tmp 3] Q) (env0 args) H) : AC Try.prog 85 args H Q :=
  AC.of (fun _ => []) Try.func85 rfl (by kernel_rfl) mixed (by kernel_rfl) (by kernel_rfl) rfl hl h
/-! ### function 86: codewright/infoset.sets -/
def s86 : SC :=
  .seq (.reg [⟨some 2, .box 27 (.tmp 0), none⟩,
    ⟨some 4, .assign (.const (.int .i64 0)), none⟩]) (.seq (.seq (.reg [⟨some 9, .move (.tmp 1), none⟩,
    ⟨some 10, .call { callee := .builtin .len, args := #[.tmp 9], argTypes := #[25] }, none⟩,
    ⟨some 11, .move (.const (.int .i64 0)), none⟩]) (.block 0 (.loop (.seq (.reg [⟨some 12, .binOp .lss 3 (.tmp 11) (.tmp 10) 3, none⟩]) (.seq (.cond (.tmp 12) .skip (.exit 0)) (.seq (.block 1 (.seq (.reg [⟨some 13, .indexAddr 25 (.tmp 9) (.tmp 11), none⟩,
    ⟨some 14, .load 22 (.tmp 13), none⟩,
    ⟨some 6, .assign (.tmp 14), none⟩]) (.seq (.reg [⟨some 15, .move (.tmp 6), none⟩,
    ⟨some 16, .call { callee := .builtin .len, args := #[.tmp 15], argTypes := #[22] }, none⟩,
    ⟨some 17, .move (.const (.int .i64 0)), none⟩]) (.block 2 (.loop (.seq (.reg [⟨some 18, .binOp .lss 3 (.tmp 17) (.tmp 16) 3, none⟩]) (.seq (.cond (.tmp 18) .skip (.exit 2)) (.seq (.block 3 (.seq (.reg [⟨some 19, .move (.tmp 17), none⟩,
    ⟨some 20, .indexAddr 22 (.tmp 15) (.tmp 17), none⟩,
    ⟨some 21, .load 3 (.tmp 20), none⟩,
    ⟨some 7, .assign (.tmp 19), none⟩,
    ⟨some 8, .assign (.tmp 21), none⟩]) (.seq (.reg [⟨some 22, .move (.tmp 8), none⟩,
    ⟨some 23, .binOp .lss 3 (.tmp 22) (.const (.int .i64 0)) 3, none⟩,
    ⟨some 24, .move (.tmp 23), none⟩,
    ⟨some 25, .move (.tmp 8), some (24, false)⟩,
    ⟨some 26, .fieldAddr 27 (.tmp 2) 1, some (24, false)⟩,
    ⟨some 27, .load 3 (.tmp 26), some (24, false)⟩,
    ⟨some 28, .binOp .geq 3 (.tmp 25) (.tmp 27) 3, some (24, false)⟩,
    ⟨some 29, .pick (.tmp 24) (.const (.bool true)) (.tmp 28), none⟩,
    ⟨some 30, .move (.tmp 29), none⟩,
    ⟨some 31, .move (.tmp 7), some (30, false)⟩,
    ⟨some 32, .binOp .gtr 3 (.tmp 31) (.const (.int .i64 0)) 3, some (30, false)⟩,
    ⟨some 33, .move (.tmp 32), some (30, false)⟩,
    ⟨some 34, .move (.tmp 8), some (33, true)⟩,
    ⟨some 35, .move (.tmp 6), some (33, true)⟩,
    ⟨some 36, .move (.tmp 7), some (33, true)⟩,
    ⟨some 37, .binOp .sub 3 (.tmp 36) (.const (.int .i64 1)) 3, some (33, true)⟩,
    ⟨some 38, .indexAddr 22 (.tmp 35) (.tmp 37), some (33, true)⟩,
    ⟨some 39, .load 3 (.tmp 38), some (33, true)⟩,
    ⟨some 40, .binOp .leq 3 (.tmp 34) (.tmp 39) 3, some (33, true)⟩,
    ⟨some 41, .pick (.tmp 33) (.tmp 40) (.const (.bool false)), some (30, false)⟩,
    ⟨some 42, .pick (.tmp 30) (.const (.bool true)) (.tmp 41), none⟩]) (.cond (.tmp 42) (.seq (.reg [⟨some 4, .assign (.const (.int .i64 6)), none⟩]) .ret) .skip)))) (.reg [⟨some 43, .binOp .add 3 (.tmp 17) (.const (.int .i64 1)) 3, none⟩,
    ⟨some 17, .move (.tmp 43), none⟩]))))))))) (.reg [⟨some 44, .binOp .add 3 (.tmp 11) (.const (.int .i64 1)) 3, none⟩,
    ⟨some 11, .move (.tmp 44), none⟩]))))))) (.seq (.reg [⟨some 4, .assign (.const (.int .i64 0)), none⟩]) .ret))
theorem at86 {args : List AV} {H : AH} {Q : AV → AH → Prop} (hl : args.length ≤ 45) (h : swp Try.prog s86 (fin Try.prog [.tmp 4] Q) (env0 args) H) : AC Try.prog 86 args H Q :=
  AC.of (fun _ => []) Try.func86 rfl (by kernel_rfl) mixed (by kernel_rfl) (by kernel_rfl) rfl hl h
/-! ### function 87: codewright/infoset.greedy -/
def s87 : SC :=
  .seq (.reg [⟨some 4, .box 27 (.tmp 1), none⟩,
    ⟨some 6, .assign (.const (.slice none 0 0)), none⟩]) (.seq (.reg [⟨some 11, .move (.tmp 0), none⟩,
    ⟨some 12, .build 122 #[(0, .tmp 11)], none⟩,
    ⟨some 13, .box 122 (.tmp 12), none⟩,
    ⟨some 7, .assign (.tmp 13), none⟩]) (.seq (.reg [⟨some 8, .assign (.const (.slice none 0 0)), none⟩]) (.seq (.seq (.reg [⟨some 14, .move (.tmp 2), none⟩,
    ⟨some 15, .call { callee := .builtin .len, args := #[.tmp 14], argTypes := #[22] }, none⟩,
    ⟨some 16, .move (.const (.int .i64 0)), none⟩]) (.block 0 (.loop (.seq (.reg [⟨some 17, .binOp .lss 3 (.tmp 16) (.tmp 15) 3, none⟩]) (.seq (.cond (.tmp 17) .skip (.exit 0)) (.seq (.block 1 (.seq (.reg [⟨some 18, .indexAddr 22 (.tmp 14) (.tmp 16), none⟩,
    ⟨some 19, .load 3 (.tmp 18), none⟩,
    ⟨some 10, .assign (.tmp 19), none⟩]) (.seq (.reg [⟨some 20, .move (.tmp 7), none⟩,
    ⟨some 21, .load 27 (.tmp 4), none⟩,
    ⟨some 22, .move (.tmp 10), none⟩,
    ⟨some 23, .call { callee := .value (.func 107), args := #[.tmp 21, .tmp 22], argTypes := #[27, 3] }, none⟩,
    ⟨some 24, .call { callee := .value (.func 106), args := #[.tmp 20, .tmp 23], argTypes := #[120, 22] }, none⟩]) (.cond (.tmp 24) (.reg [⟨some 25, .move (.tmp 8), none⟩,
    ⟨some 26, .move (.tmp 10), none⟩,
    ⟨some 27, .buildSlice 22 1 #[(0, .tmp 26)], none⟩,
    ⟨some 28, .call { callee := .builtin .append, args := #[.tmp 25, .tmp 27], argTypes := #[22, 22] }, none⟩,
    ⟨some 8, .assign (.tmp 28), none⟩]) .skip)))) (.reg [⟨some 29, .binOp .add 3 (.tmp 16) (.const (.int .i64 1)) 3, none⟩,
    ⟨some 16, .move (.tmp 29), none⟩]))))))) (.seq (.reg [⟨some 30, .move (.tmp 8), none⟩,
    ⟨some 6, .assign (.tmp 30), none⟩]) .ret))))
theorem at87 {args : List AV} {H : AH} {Q : AV → AH → Prop} (hl : args.length ≤ 31) (h : swp Try.prog s87 (fin Try.prog [.tmp 6] Q) (env0 args) H) : AC Try.prog 87 args H Q :=
  AC.of (fun _ => []) Try.func87 rfl (by kernel_rfl) mixed (by kernel_rfl) (by kernel_rfl) rfl hl h
/-! ### function 88: codewright/codewrightref04.Is -/
def s88 : SC :=
  .seq (.reg [⟨some 2, .box 24 (.tmp 0), none⟩,
    ⟨some 4, .assign (.const (.bool false)), none⟩]) (.seq (.reg [⟨some 5, .move (.tmp 1), none⟩,
    ⟨some 6, .binOp .geq 3 (.tmp 5) (.const (.int .i64 0)) 3, none⟩,
    ⟨some 7, .move (.tmp 6), none⟩,
    ⟨some 8, .move (.tmp 1), some (7, true)⟩,
    ⟨some 9, .load 24 (.tmp 2), some (7, true)⟩,
    ⟨some 10, .call { callee := .value (.func 50), args := #[.tmp 9], argTypes := #[24] }, some (7, true)⟩,
    ⟨some 11, .binOp .lss 3 (.tmp 8) (.tmp 10) 3, some (7, true)⟩,
    ⟨some 12, .pick (.tmp 7) (.tmp 11) (.const (.bool false)), none⟩,
    ⟨some 4, .assign (.tmp 12), none⟩]) .ret)
theorem at88 {args : List AV} {H : AH} {Q : AV → AH → Prop} (hl : args.length ≤ 13) (h : swp Try.prog s88 (fin Try.prog [.tmp 4] Q) (env0 args) H) : AC Try.prog 88 args H Q :=
  AC.of (fun _ => []) Try.func88 rfl (by kernel_rfl) mixed (by kernel_rfl) (by kernel_rfl) rfl hl h
/-! ### function 89: codewright/codewrightref09.Copy -/
def s89 : SC :=
  .seq (.reg [⟨some 2, .assign (.const (.slice none 0 0)), none⟩]) (.seq (.reg [⟨some 3, .assign (.const (.slice none 0 0)), none⟩]) (.seq (.seq (.reg [⟨some 4, .assign (.const (.int .i64 0)), none⟩]) (.block 0 (.loop (.seq (.seq (.reg [⟨some 5, .move (.tmp 4), none⟩,
    ⟨some 6, .move (.tmp 0), none⟩,
    ⟨some 7, .call { callee := .builtin .len, args := #[.tmp 6], argTypes := #[25] }, none⟩,
    ⟨some 8, .binOp .lss 3 (.tmp 5) (.tmp 7) 3, none⟩]) (.cond (.tmp 8) .skip (.exit 0))) (.seq (.block 1 (.reg [⟨some 11, .move (.tmp 3), none⟩,
    ⟨some 12, .buildSlice 22 0 #[], none⟩,
    ⟨some 13, .move (.tmp 0), none⟩,
    ⟨some 14, .move (.tmp 4), none⟩,
    ⟨some 15, .indexAddr 25 (.tmp 13) (.tmp 14), none⟩,
    ⟨some 16, .load 22 (.tmp 15), none⟩,
    ⟨some 17, .call { callee := .builtin .append, args := #[.tmp 12, .tmp 16], argTypes := #[22, 22] }, none⟩,
    ⟨some 18, .buildSlice 25 1 #[(0, .tmp 17)], none⟩,
    ⟨some 19, .call { callee := .builtin .append, args := #[.tmp 11, .tmp 18], argTypes := #[25, 25] }, none⟩,
    ⟨some 3, .assign (.tmp 19), none⟩])) (.reg [⟨some 9, .move (.tmp 4), none⟩,
    ⟨some 10, .binOp .add 3 (.tmp 9) (.const (.int .i64 1)) 3, none⟩,
    ⟨some 4, .assign (.tmp 10), none⟩])))))) (.seq (.reg [⟨some 20, .move (.tmp 3), none⟩,
    ⟨some 2, .assign (.tmp 20), none⟩]) .ret)))
theorem at89 {args : List AV} {H : AH} {Q : AV → AH → Prop} (hl : args.length ≤ 21) (h : swp Try.prog s89 (fin Try.prog [.tmp 2] Q) (env0 args) H) : AC Try.prog 89 args H Q :=
  AC.of (fun _ => []) Try.func89 rfl (by kernel_rfl) mixed (by kernel_rfl) (by kernel_rfl) rfl hl h
/-! ### function 90: codewright/codewrightref09.scale -/
def pl90 : Nat → Plan
  | 5 => [(0, []), (1, []), (2, []), (3, []), (4, []), (5, []), (6, []), (7, []), (8, []), (9, []), (10, [])]
  | _ => []
def s90 : SC :=
  .seq (.reg [⟨some 3, .box 24 (.tmp 0), none⟩,
    ⟨some 6, .assign (.const (.slice none 0 0)), none⟩]) (.seq (.reg [⟨some 9, .move (.tmp 2), none⟩,
    ⟨some 10, .call { callee := .builtin .len, args := #[.tmp 9], argTypes := #[22] }, none⟩,
    ⟨some 11, .makeSlice 22 (.tmp 10) (.tmp 10), none⟩,
    ⟨some 7, .assign (.tmp 11), none⟩]) (.seq (.seq (.reg [⟨some 8, .assign (.const (.int .i64 0)), none⟩]) (.block 0 (.loop (.seq (.seq (.reg [⟨some 12, .move (.tmp 8), none⟩,
    ⟨some 13, .move (.tmp 2), none⟩,
    ⟨some 14, .call { callee := .builtin .len, args := #[.tmp 13], argTypes := #[22] }, none⟩,
    ⟨some 15, .binOp .lss 3 (.tmp 12) (.tmp 14) 3, none⟩]) (.cond (.tmp 15) .skip (.exit 0))) (.seq (.block 1 (.draw [(0, [], ⟨some 18, .move (.tmp 7), none⟩),
    (1, [], ⟨some 19, .move (.tmp 8), none⟩),
    (2, [], ⟨some 20, .load 24 (.tmp 3), none⟩),
    (3, [], ⟨some 21, .move (.tmp 1), none⟩),
    (4, [], ⟨some 22, .move (.tmp 2), none⟩),
    (5, [], ⟨some 23, .move (.tmp 8), none⟩),
    (6, [], ⟨some 24, .indexAddr 22 (.tmp 22) (.tmp 23), none⟩),
    (7, [], ⟨some 25, .load 3 (.tmp 24), none⟩),
    (8, [], ⟨some 26, .call { callee := .value (.func 108), args := #[.tmp 20, .tmp 21, .tmp 25], argTypes := #[24, 3, 3] }, none⟩),
    (9, [], ⟨some 27, .indexAddr 22 (.tmp 18) (.tmp 19), none⟩),
    (10, [], ⟨none, .store 3 (.tmp 27) (.tmp 26), none⟩)])) (.reg [⟨some 16, .move (.tmp 8), none⟩,
    ⟨some 17, .binOp .add 3 (.tmp 16) (.const (.int .i64 1)) 3, none⟩,
    ⟨some 8, .assign (.tmp 17), none⟩])))))) (.seq (.reg [⟨some 28, .move (.tmp 7), none⟩,
    ⟨some 6, .assign (.tmp 28), none⟩]) .ret)))
theorem at90 {args : List AV} {H : AH} {Q : AV → AH → Prop} (hl : args.length ≤ 29) (h : swp Try.prog s90 (fin Try.prog [.tmp 6] Q) (env0 args) H) : AC Try.prog 90 args H Q :=
  AC.of (pl90) Try.func90 rfl (by kernel_rfl) mixed (by kernel_rfl) (by kernel_rfl) rfl hl h
/-! ### function 91: codewright/codewrightref04.Inv -/
def s91 : SC :=
  .seq (.reg [⟨some 2, .box 24 (.tmp 0), none⟩,
    ⟨some 4, .assign (.const (.int .i64 0)), none⟩]) (.seq (.seq (.reg [⟨some 5, .assign (.const (.int .i64 1)), none⟩]) (.block 0 (.loop (.seq (.seq (.reg [⟨some 6, .move (.tmp 5), none⟩,
    ⟨some 7, .load 24 (.tmp 2), none⟩,
    ⟨some 8, .call { callee := .value (.func 50), args := #[.tmp 7], argTypes := #[24] }, none⟩,
    ⟨some 9, .binOp .lss 3 (.tmp 6) (.tmp 8) 3, none⟩]) (.cond (.tmp 9) .skip (.exit 0))) (.seq (.block 1 (.seq (.reg [⟨some 12, .load 24 (.tmp 2), none⟩,
    ⟨some 13, .move (.tmp 1), none⟩,
    ⟨some 14, .move (.tmp 5), none⟩,
    ⟨some 15, .call { callee := .value (.func 108), args := #[.tmp 12, .tmp 13, .tmp 14], argTypes := #[24, 3, 3] }, none⟩,
    ⟨some 16, .binOp .eql 3 (.tmp 15) (.const (.int .i64 1)) 3, none⟩]) (.cond (.tmp 16) (.seq (.reg [⟨some 17, .move (.tmp 5), none⟩,
    ⟨some 4, .assign (.tmp 17), none⟩]) .ret) .skip))) (.reg [⟨some 10, .move (.tmp 5), none⟩,
    ⟨some 11, .binOp .add 3 (.tmp 10) (.const (.int .i64 1)) 3, none⟩,
    ⟨some 5, .assign (.tmp 11), none⟩])))))) (.seq (.reg [⟨some 4, .assign (.const (.int .i64 0)), none⟩]) .ret))
theorem at91 {args : List AV} {H : AH} {Q : AV → AH → Prop} (hl : args.length ≤ 18) (h : swp Try.prog s91 (fin Try.prog [.tmp 4] Q) (env0 args) H) : AC Try.prog 91 args H Q :=
  AC.of (fun _ => []) Try.func91 rfl (by kernel_rfl) mixed (by kernel_rfl) (by kernel_rfl) rfl hl h
/-! ### function 92: codewright/codewrightref09.AddTo -/
def pl92 : Nat → Plan
  | 7 => [(0, []), (1, []), (2, []), (3, []), (4, []), (5, []), (6, []), (7, []), (8, []), (9, []), (10, []), (11, []), (12, []), (13, [2, 6]), (14, []), (15, []), (16, [])]
  | _ => []
def s92 : SC :=
  .seq (.reg [⟨some 4, .box 24 (.tmp 0), none⟩,
    ⟨some 8, .assign (.const (.slice none 0 0)), none⟩]) (.seq (.reg [⟨some 11, .move (.tmp 1), none⟩,
    ⟨some 12, .call { callee := .builtin .len, args := #[.tmp 11], argTypes := #[22] }, none⟩,
    ⟨some 13, .makeSlice 22 (.tmp 12) (.tmp 12), none⟩,
    ⟨some 9, .assign (.tmp 13), none⟩]) (.seq (.seq (.reg [⟨some 10, .assign (.const (.int .i64 0)), none⟩]) (.block 0 (.loop (.seq (.seq (.reg [⟨some 14, .move (.tmp 10), none⟩,
    ⟨some 15, .move (.tmp 1), none⟩,
    ⟨some 16, .call { callee := .builtin .len, args := #[.tmp 15], argTypes := #[22] }, none⟩,
    ⟨some 17, .binOp .lss 3 (.tmp 14) (.tmp 16) 3, none⟩]) (.cond (.tmp 17) .skip (.exit 0))) (.seq (.block 1 (.seq (.reg [⟨some 20, .move (.tmp 9), none⟩,
    ⟨some 21, .move (.tmp 10), none⟩,
    ⟨some 22, .move (.tmp 1), none⟩,
    ⟨some 23, .move (.tmp 10), none⟩,
    ⟨some 24, .indexAddr 22 (.tmp 22) (.tmp 23), none⟩,
    ⟨some 25, .load 3 (.tmp 24), none⟩,
    ⟨some 26, .indexAddr 22 (.tmp 20) (.tmp 21), none⟩,
    ⟨none, .store 3 (.tmp 26) (.tmp 25), none⟩]) (.seq (.reg [⟨some 27, .move (.tmp 3), none⟩,
    ⟨some 28, .move (.tmp 10), none⟩,
    ⟨some 29, .indexAddr 22 (.tmp 27) (.tmp 28), none⟩,
    ⟨some 30, .load 3 (.tmp 29), none⟩,
    ⟨some 31, .binOp .neq 3 (.tmp 30) (.const (.int .i64 0)) 3, none⟩]) (.cond (.tmp 31) (.draw [(0, [], ⟨some 32, .move (.tmp 9), none⟩),
    (1, [], ⟨some 33, .move (.tmp 10), none⟩),
    (2, [], ⟨some 34, .load 24 (.tmp 4), none⟩),
    (3, [], ⟨some 35, .move (.tmp 1), none⟩),
    (4, [], ⟨some 36, .move (.tmp 10), none⟩),
    (5, [], ⟨some 37, .indexAddr 22 (.tmp 35) (.tmp 36), none⟩),
    (6, [], ⟨some 38, .load 3 (.tmp 37), none⟩),
    (7, [], ⟨some 39, .load 24 (.tmp 4), none⟩),
    (8, [], ⟨some 40, .move (.tmp 2), none⟩),
    (9, [], ⟨some 41, .move (.tmp 3), none⟩),
    (10, [], ⟨some 42, .move (.tmp 10), none⟩),
    (11, [], ⟨some 43, .indexAddr 22 (.tmp 41) (.tmp 42), none⟩),
    (12, [], ⟨some 44, .load 3 (.tmp 43), none⟩),
    (13, [2, 6], ⟨some 45, .call { callee := .value (.func 108), args := #[.tmp 39, .tmp 40, .tmp 44], argTypes := #[24, 3, 3] }, none⟩),
    (14, [], ⟨some 46, .call { callee := .value (.func 109), args := #[.tmp 34, .tmp 38, .tmp 45], argTypes := #[24, 3, 3] }, none⟩),
    (15, [], ⟨some 47, .indexAddr 22 (.tmp 32) (.tmp 33), none⟩),
    (16, [], ⟨none, .store 3 (.tmp 47) (.tmp 46), none⟩)]) .skip)))) (.reg [⟨some 18, .move (.tmp 10), none⟩,
    ⟨some 19, .binOp .add 3 (.tmp 18) (.const (.int .i64 1)) 3, none⟩,
    ⟨some 10, .assign (.tmp 19), none⟩])))))) (.seq (.reg [⟨some 48, .move (.tmp 9), none⟩,
    ⟨some 8, .assign (.tmp 48), none⟩]) .ret)))
theorem at92 {args : List AV} {H : AH} {Q : AV → AH → Prop} (hl : args.length ≤ 49) (h : swp Try.prog s92 (fin Try.prog [.tmp 8] Q) (env0 args) H) : AC Try.prog 92 args H Q :=
  AC.of (pl92) Try.func92 rfl (by kernel_rfl) mixed (by kernel_rfl) (by kernel_rfl) rfl hl h
/-! ### function 93: codewright/codewrightref04.Neg -/
def pl93 : Nat → Plan
  | 5 => [(0, []), (1, []), (2, []), (3, []), (4, []), (5, []), (6, []), (7, []), (8, []), (9, []), (10, []), (11, []), (12, []), (13, [])]
  | _ => []
def s93 : SC :=
  .seq (.reg [⟨some 2, .box 24 (.tmp 0), none⟩,
    ⟨some 4, .assign (.const (.int .i64 0)), none⟩]) (.seq (.reg [⟨some 7, .load 24 (.tmp 2), none⟩,
    ⟨some 8, .move (.tmp 1), none⟩,
    ⟨some 9, .call { callee := .value (.func 110), args := #[.tmp 7, .tmp 8], argTypes := #[24, 3] }, none⟩,
    ⟨some 5, .assign (.tmp 9), none⟩]) (.seq (.seq (.reg [⟨some 6, .assign (.const (.int .i64 0)), none⟩]) (.block 0 (.loop (.seq (.seq (.reg [⟨some 10, .move (.tmp 6), none⟩,
    ⟨some 11, .move (.tmp 5), none⟩,
    ⟨some 12, .call { callee := .builtin .len, args := #[.tmp 11], argTypes := #[22] }, none⟩,
    ⟨some 13, .binOp .lss 3 (.tmp 10) (.tmp 12) 3, none⟩]) (.cond (.tmp 13) .skip (.exit 0))) (.seq (.block 1 (.draw [(0, [], ⟨some 16, .move (.tmp 5), none⟩),
    (1, [], ⟨some 17, .move (.tmp 6), none⟩),
    (2, [], ⟨some 18, .fieldAddr 24 (.tmp 2) 0, none⟩),
    (3, [], ⟨some 19, .load 3 (.tmp 18), none⟩),
    (4, [], ⟨some 20, .move (.tmp 5), none⟩),
    (5, [], ⟨some 21, .move (.tmp 6), none⟩),
    (6, [], ⟨some 22, .indexAddr 22 (.tmp 20) (.tmp 21), none⟩),
    (7, [], ⟨some 23, .load 3 (.tmp 22), none⟩),
    (8, [], ⟨some 24, .binOp .sub 3 (.tmp 19) (.tmp 23) 3, none⟩),
    (9, [], ⟨some 25, .fieldAddr 24 (.tmp 2) 0, none⟩),
    (10, [], ⟨some 26, .load 3 (.tmp 25), none⟩),
    (11, [], ⟨some 27, .binOp .rem 3 (.tmp 24) (.tmp 26) 3, none⟩),
    (12, [], ⟨some 28, .indexAddr 22 (.tmp 16) (.tmp 17), none⟩),
    (13, [], ⟨none, .store 3 (.tmp 28) (.tmp 27), none⟩)])) (.reg [⟨some 14, .move (.tmp 6), none⟩,
    ⟨some 15, .binOp .add 3 (.tmp 14) (.const (.int .i64 1)) 3, none⟩,
    ⟨some 6, .assign (.tmp 15), none⟩])))))) (.seq (.reg [⟨some 29, .load 24 (.tmp 2), none⟩,
    ⟨some 30, .move (.tmp 5), none⟩,
    ⟨some 31, .call { callee := .value (.func 111), args := #[.tmp 29, .tmp 30], argTypes := #[24, 22] }, none⟩,
    ⟨some 4, .assign (.tmp 31), none⟩]) .ret)))
theorem at93 {args : List AV} {H : AH} {Q : AV → AH → Prop} (hl : args.length ≤ 32) (h : swp Try.prog s93 (fin Try.prog [.tmp 4] Q) (env0 args) H) : AC Try.prog 93 args H Q :=
  AC.of (pl93) Try.func93 rfl (by kernel_rfl) mixed (by kernel_rfl) (by kernel_rfl) rfl hl h
/-! ### function 94: codewright/matrix.entries -/
def s94 : SC :=
  .seq (.reg [⟨some 4, .assign (.const (.int .i64 0)), none⟩]) (.seq (.seq (.reg [⟨some 7, .move (.tmp 1), none⟩,
    ⟨some 8, .call { callee := .builtin .len, args := #[.tmp 7], argTypes := #[22] }, none⟩,
    ⟨some 9, .move (.const (.int .i64 0)), none⟩]) (.block 0 (.loop (.seq (.reg [⟨some 10, .binOp .lss 3 (.tmp 9) (.tmp 8) 3, none⟩]) (.seq (.cond (.tmp 10) .skip (.exit 0)) (.seq (.block 1 (.seq (.reg [⟨some 11, .indexAddr 22 (.tmp 7) (.tmp 9), none⟩,
    ⟨some 12, .load 3 (.tmp 11), none⟩,
    ⟨some 6, .assign (.tmp 12), none⟩]) (.seq (.reg [⟨some 13, .move (.tmp 0), none⟩,
    ⟨some 14, .move (.tmp 6), none⟩,
    ⟨some 15, .call { callee := .value (.func 103), args := #[.tmp 13, .tmp 14], argTypes := #[75, 3] }, none⟩,
    ⟨some 16, .unOp .not 4 (.tmp 15), none⟩]) (.cond (.tmp 16) (.seq (.reg [⟨some 4, .assign (.const (.int .i64 2)), none⟩]) .ret) .skip)))) (.reg [⟨some 17, .binOp .add 3 (.tmp 9) (.const (.int .i64 1)) 3, none⟩,
    ⟨some 9, .move (.tmp 17), none⟩]))))))) (.seq (.reg [⟨some 4, .assign (.const (.int .i64 0)), none⟩]) .ret))
theorem at94 {args : List AV} {H : AH} {Q : AV → AH → Prop} (hl : args.length ≤ 18) (h : swp Try.prog s94 (fin Try.prog [.tmp 4] Q) (env0 args) H) : AC Try.prog 94 args H Q :=
  AC.of (fun _ => []) Try.func94 rfl (by kernel_rfl) mixed (by kernel_rfl) (by kernel_rfl) rfl hl h
/-! ### function 95: codewright/matrix.eliminate$1 -/
def s95 : SC :=
  .seq (.reg [⟨some 4, .move (.tmp 0), none⟩,
    ⟨some 5, .load 25 (.tmp 1), none⟩,
    ⟨some 6, .call { callee := .value (.tmp 4), args := #[.tmp 5], argTypes := #[25] }, none⟩]) (.seq (.reg [⟨some 7, .load 25 (.tmp 2), none⟩,
    ⟨some 8, .call { callee := .builtin .len, args := #[.tmp 7], argTypes := #[25] }, none⟩,
    ⟨some 9, .binOp .gtr 3 (.tmp 8) (.const (.int .i64 0)) 3, none⟩]) (.cond (.tmp 9) (.reg [⟨some 10, .move (.tmp 0), none⟩,
    ⟨some 11, .load 25 (.tmp 2), none⟩,
    ⟨some 12, .call { callee := .value (.tmp 10), args := #[.tmp 11], argTypes := #[25] }, none⟩]) .skip))
theorem at95 {args : List AV} {H : AH} {Q : AV → AH → Prop} (hl : args.length ≤ 13) (h : swp Try.prog s95 (fin Try.prog [] Q) (env0 args) H) : AC Try.prog 95 args H Q :=
  AC.of (fun _ => []) Try.func95 rfl (by kernel_rfl) mixed (by kernel_rfl) (by kernel_rfl) rfl hl h
/-! ### function 96: codewright/matrix.eliminate$2 -/
def pl96 : Nat → Plan
  | 0 => [(0, []), (1, []), (2, []), (3, []), (4, []), (5, []), (6, []), (7, []), (8, []), (9, []), (10, []), (11, []), (12, []), (13, [3]), (14, []), (15, [])]
  | _ => []
def s96 : SC :=
  .draw [(0, [], ⟨some 4, .move (.tmp 0), none⟩),
    (1, [], ⟨some 5, .load 3 (.tmp 2), none⟩),
    (2, [], ⟨some 6, .move (.tmp 0), none⟩),
    (3, [], ⟨some 7, .load 3 (.tmp 1), none⟩),
    (4, [], ⟨some 8, .move (.tmp 0), none⟩),
    (5, [], ⟨some 9, .load 3 (.tmp 1), none⟩),
    (6, [], ⟨some 10, .indexAddr 25 (.tmp 8) (.tmp 9), none⟩),
    (7, [], ⟨some 11, .load 22 (.tmp 10), none⟩),
    (8, [], ⟨some 12, .move (.tmp 0), none⟩),
    (9, [], ⟨some 13, .load 3 (.tmp 2), none⟩),
    (10, [], ⟨some 14, .indexAddr 25 (.tmp 12) (.tmp 13), none⟩),
    (11, [], ⟨some 15, .load 22 (.tmp 14), none⟩),
    (12, [], ⟨some 16, .indexAddr 25 (.tmp 4) (.tmp 5), none⟩),
    (13, [3], ⟨none, .store 22 (.tmp 16) (.tmp 11), none⟩),
    (14, [], ⟨some 17, .indexAddr 25 (.tmp 6) (.tmp 7), none⟩),
    (15, [], ⟨none, .store 22 (.tmp 17) (.tmp 15), none⟩)]
theorem at96 {args : List AV} {H : AH} {Q : AV → AH → Prop} (hl : args.length ≤ 18) (h : swp Try.prog s96 (fin Try.prog [] Q) (env0 args) H) : AC Try.prog 96 args H Q :=
  AC.of (pl96) Try.func96 rfl (by kernel_rfl) mixed (by kernel_rfl) (by kernel_rfl) rfl hl h
/-! ### function 97: (*codewright/field.GF).Mul -/
def pl97 : Nat → Plan
  | 4 => [(0, []), (1, []), (2, []), (3, []), (4, []), (5, []), (6, []), (7, []), (8, []), (9, []), (10, []), (11, []), (12, []), (13, []), (14, []), (15, []), (16, []), (17, []), (18, []), (19, []), (20, []), (21, []), (22, []), (23, []), (24, []), (25, []), (26, []), (27, [])]
  | _ => []
def s97 : SC :=
  .seq (.reg [⟨some 6, .assign (.const (.int .i64 0)), none⟩]) (.seq (.reg [⟨some 7, .move (.tmp 0), none⟩,
    ⟨some 8, .move (.tmp 1), none⟩,
    ⟨some 9, .call { callee := .value (.func 78), args := #[.tmp 7, .tmp 8], argTypes := #[75, 3] }, none⟩,
    ⟨some 10, .move (.tmp 0), none⟩,
    ⟨some 11, .move (.tmp 2), none⟩,
    ⟨some 12, .call { callee := .value (.func 78), args := #[.tmp 10, .tmp 11], argTypes := #[75, 3] }, none⟩,
    ⟨some 1, .assign (.tmp 9), none⟩,
    ⟨some 2, .assign (.tmp 12), none⟩]) (.seq (.seq (.reg [⟨some 13, .move (.tmp 1), none⟩,
    ⟨some 14, .binOp .eql 3 (.tmp 13) (.const (.int .i64 0)) 3, none⟩,
    ⟨some 15, .move (.tmp 14), none⟩,
    ⟨some 16, .move (.tmp 2), some (15, false)⟩,
    ⟨some 17, .binOp .eql 3 (.tmp 16) (.const (.int .i64 0)) 3, some (15, false)⟩,
    ⟨some 18, .pick (.tmp 15) (.const (.bool true)) (.tmp 17), none⟩]) (.cond (.tmp 18) (.seq (.reg [⟨some 6, .assign (.const (.int .i64 0)), none⟩]) .ret) .skip)) (.seq (.draw [(0, [], ⟨some 19, .move (.tmp 0), none⟩),
    (1, [], ⟨some 20, .nilCheck (.tmp 19), none⟩),
    (2, [], ⟨some 21, .fieldAddr 101 (.tmp 20) 2, none⟩),
    (3, [], ⟨some 22, .load 22 (.tmp 21), none⟩),
    (4, [], ⟨some 23, .move (.tmp 0), none⟩),
    (5, [], ⟨some 24, .nilCheck (.tmp 23), none⟩),
    (6, [], ⟨some 25, .fieldAddr 101 (.tmp 24) 3, none⟩),
    (7, [], ⟨some 26, .load 22 (.tmp 25), none⟩),
    (8, [], ⟨some 27, .move (.tmp 1), none⟩),
    (9, [], ⟨some 28, .indexAddr 22 (.tmp 26) (.tmp 27), none⟩),
    (10, [], ⟨some 29, .load 3 (.tmp 28), none⟩),
    (11, [], ⟨some 30, .move (.tmp 0), none⟩),
    (12, [], ⟨some 31, .nilCheck (.tmp 30), none⟩),
    (13, [], ⟨some 32, .fieldAddr 101 (.tmp 31) 3, none⟩),
    (14, [], ⟨some 33, .load 22 (.tmp 32), none⟩),
    (15, [], ⟨some 34, .move (.tmp 2), none⟩),
    (16, [], ⟨some 35, .indexAddr 22 (.tmp 33) (.tmp 34), none⟩),
    (17, [], ⟨some 36, .load 3 (.tmp 35), none⟩),
    (18, [], ⟨some 37, .binOp .add 3 (.tmp 29) (.tmp 36) 3, none⟩),
    (19, [], ⟨some 38, .move (.tmp 0), none⟩),
    (20, [], ⟨some 39, .nilCheck (.tmp 38), none⟩),
    (21, [], ⟨some 40, .fieldAddr 101 (.tmp 39) 1, none⟩),
    (22, [], ⟨some 41, .load 3 (.tmp 40), none⟩),
    (23, [], ⟨some 42, .binOp .sub 3 (.tmp 41) (.const (.int .i64 1)) 3, none⟩),
    (24, [], ⟨some 43, .binOp .rem 3 (.tmp 37) (.tmp 42) 3, none⟩),
    (25, [], ⟨some 44, .indexAddr 22 (.tmp 22) (.tmp 43), none⟩),
    (26, [], ⟨some 45, .load 3 (.tmp 44), none⟩),
    (27, [], ⟨some 6, .assign (.tmp 45), none⟩)]) .ret)))
theorem at97 {args : List AV} {H : AH} {Q : AV → AH → Prop} (hl : args.length ≤ 46) (h : swp Try.prog s97 (fin Try.prog [.tmp 6] Q) (env0 args) H) : AC Try.prog 97 args H Q :=
  AC.of (pl97) Try.func97 rfl (by kernel_rfl) mixed (by kernel_rfl) (by kernel_rfl) rfl hl h
/-! ### function 98: (*codewright/field.GF).Inv -/
def pl98 : Nat → Plan
  | 4 => [(0, []), (1, []), (2, []), (3, []), (4, []), (5, []), (6, []), (7, []), (8, []), (9, []), (10, []), (11, []), (12, []), (13, []), (14, []), (15, []), (16, []), (17, []), (18, []), (19, []), (20, []), (21, []), (22, []), (23, []), (24, []), (25, []), (26, [])]
  | _ => []
def s98 : SC :=
  .seq (.reg [⟨some 4, .assign (.const (.int .i64 0)), none⟩,
    ⟨some 5, .assign (.const (.int .i64 0)), none⟩]) (.seq (.reg [⟨some 6, .move (.tmp 0), none⟩,
    ⟨some 7, .move (.tmp 1), none⟩,
    ⟨some 8, .call { callee := .value (.func 78), args := #[.tmp 6, .tmp 7], argTypes := #[75, 3] }, none⟩,
    ⟨some 1, .assign (.tmp 8), none⟩]) (.seq (.seq (.reg [⟨some 9, .move (.tmp 1), none⟩,
    ⟨some 10, .binOp .eql 3 (.tmp 9) (.const (.int .i64 0)) 3, none⟩]) (.cond (.tmp 10) (.seq (.reg [⟨some 4, .assign (.const (.int .i64 0)), none⟩,
    ⟨some 5, .assign (.const (.int .i64 7)), none⟩]) .ret) .skip)) (.seq (.draw [(0, [], ⟨some 11, .move (.tmp 0), none⟩),
    (1, [], ⟨some 12, .nilCheck (.tmp 11), none⟩),
    (2, [], ⟨some 13, .fieldAddr 101 (.tmp 12) 2, none⟩),
    (3, [], ⟨some 14, .load 22 (.tmp 13), none⟩),
    (4, [], ⟨some 15, .move (.tmp 0), none⟩),
    (5, [], ⟨some 16, .nilCheck (.tmp 15), none⟩),
    (6, [], ⟨some 17, .fieldAddr 101 (.tmp 16) 1, none⟩),
    (7, [], ⟨some 18, .load 3 (.tmp 17), none⟩),
    (8, [], ⟨some 19, .binOp .sub 3 (.tmp 18) (.const (.int .i64 1)) 3, none⟩),
    (9, [], ⟨some 20, .move (.tmp 0), none⟩),
    (10, [], ⟨some 21, .nilCheck (.tmp 20), none⟩),
    (11, [], ⟨some 22, .fieldAddr 101 (.tmp 21) 3, none⟩),
    (12, [], ⟨some 23, .load 22 (.tmp 22), none⟩),
    (13, [], ⟨some 24, .move (.tmp 1), none⟩),
    (14, [], ⟨some 25, .indexAddr 22 (.tmp 23) (.tmp 24), none⟩),
    (15, [], ⟨some 26, .load 3 (.tmp 25), none⟩),
    (16, [], ⟨some 27, .binOp .sub 3 (.tmp 19) (.tmp 26) 3, none⟩),
    (17, [], ⟨some 28, .move (.tmp 0), none⟩),
    (18, [], ⟨some 29, .nilCheck (.tmp 28), none⟩),
    (19, [], ⟨some 30, .fieldAddr 101 (.tmp 29) 1, none⟩),
    (20, [], ⟨some 31, .load 3 (.tmp 30), none⟩),
    (21, [], ⟨some 32, .binOp .sub 3 (.tmp 31) (.const (.int .i64 1)) 3, none⟩),
    (22, [], ⟨some 33, .binOp .rem 3 (.tmp 27) (.tmp 32) 3, none⟩),
    (23, [], ⟨some 34, .indexAddr 22 (.tmp 14) (.tmp 33), none⟩),
    (24, [], ⟨some 35, .load 3 (.tmp 34), none⟩),
    (25, [], ⟨some 4, .assign (.tmp 35), none⟩),
    (26, [], ⟨some 5, .assign (.const (.int .i64 0)), none⟩)]) .ret)))
theorem at98 {args : List AV} {H : AH} {Q : AV → AH → Prop} (hl : args.length ≤ 36) (h : swp Try.prog s98 (fin Try.prog [.tmp 4, .tmp 5] Q) (env0 args) H) : AC Try.prog 98 args H Q :=
  AC.of (pl98) Try.func98 rfl (by kernel_rfl) mixed (by kernel_rfl) (by kernel_rfl) rfl hl h
/-! ### function 99: codewright/matrix.eliminate$3 -/
def pl99 : Nat → Plan
  | 0 => [(0, []), (1, []), (2, []), (3, []), (4, []), (5, []), (6, []), (7, []), (8, [1]), (9, []), (10, [])]
  | _ => []
def s99 : SC :=
  .draw [(0, [], ⟨some 5, .move (.tmp 0), none⟩),
    (1, [], ⟨some 6, .load 3 (.tmp 3), none⟩),
    (2, [], ⟨some 7, .load 75 (.tmp 1), none⟩),
    (3, [], ⟨some 8, .load 3 (.tmp 2), none⟩),
    (4, [], ⟨some 9, .move (.tmp 0), none⟩),
    (5, [], ⟨some 10, .load 3 (.tmp 3), none⟩),
    (6, [], ⟨some 11, .indexAddr 25 (.tmp 9) (.tmp 10), none⟩),
    (7, [], ⟨some 12, .load 22 (.tmp 11), none⟩),
    (8, [1], ⟨some 13, .call { callee := .value (.func 100), args := #[.tmp 7, .tmp 8, .tmp 12], argTypes := #[75, 3, 22] }, none⟩),
    (9, [], ⟨some 14, .indexAddr 25 (.tmp 5) (.tmp 6), none⟩),
    (10, [], ⟨none, .store 22 (.tmp 14) (.tmp 13), none⟩)]
theorem at99 {args : List AV} {H : AH} {Q : AV → AH → Prop} (hl : args.length ≤ 15) (h : swp Try.prog s99 (fin Try.prog [] Q) (env0 args) H) : AC Try.prog 99 args H Q :=
  AC.of (pl99) Try.func99 rfl (by kernel_rfl) mixed (by kernel_rfl) (by kernel_rfl) rfl hl h
/-! ### function 100: (*codewright/field.GF).Scale -/
def s100 : SC :=
  .seq (.reg [⟨some 6, .assign (.const (.slice none 0 0)), none⟩]) (.seq (.reg [⟨some 10, .move (.tmp 2), none⟩,
    ⟨some 11, .call { callee := .builtin .len, args := #[.tmp 10], argTypes := #[22] }, none⟩,
    ⟨some 12, .makeSlice 22 (.tmp 11) (.tmp 11), none⟩,
    ⟨some 7, .assign (.tmp 12), none⟩]) (.seq (.seq (.reg [⟨some 13, .move (.tmp 2), none⟩,
    ⟨some 14, .call { callee := .builtin .len, args := #[.tmp 13], argTypes := #[22] }, none⟩,
    ⟨some 15, .move (.const (.int .i64 0)), none⟩]) (.block 0 (.loop (.seq (.reg [⟨some 16, .binOp .lss 3 (.tmp 15) (.tmp 14) 3, none⟩]) (.seq (.cond (.tmp 16) .skip (.exit 0)) (.seq (.block 1 (.seq (.reg [⟨some 17, .move (.tmp 15), none⟩,
    ⟨some 18, .indexAddr 22 (.tmp 13) (.tmp 15), none⟩,
    ⟨some 19, .load 3 (.tmp 18), none⟩,
    ⟨some 8, .assign (.tmp 17), none⟩,
    ⟨some 9, .assign (.tmp 19), none⟩]) (.reg [⟨some 20, .move (.tmp 7), none⟩,
    ⟨some 21, .move (.tmp 8), none⟩,
    ⟨some 22, .move (.tmp 0), none⟩,
    ⟨some 23, .move (.tmp 1), none⟩,
    ⟨some 24, .move (.tmp 9), none⟩,
    ⟨some 25, .call { callee := .value (.func 97), args := #[.tmp 22, .tmp 23, .tmp 24], argTypes := #[75, 3, 3] }, none⟩,
    ⟨some 26, .indexAddr 22 (.tmp 20) (.tmp 21), none⟩,
    ⟨none, .store 3 (.tmp 26) (.tmp 25), none⟩]))) (.reg [⟨some 27, .binOp .add 3 (.tmp 15) (.const (.int .i64 1)) 3, none⟩,
    ⟨some 15, .move (.tmp 27), none⟩]))))))) (.seq (.reg [⟨some 28, .move (.tmp 7), none⟩,
    ⟨some 6, .assign (.tmp 28), none⟩]) .ret)))
theorem at100 {args : List AV} {H : AH} {Q : AV → AH → Prop} (hl : args.length ≤ 29) (h : swp Try.prog s100 (fin Try.prog [.tmp 6] Q) (env0 args) H) : AC Try.prog 100 args H Q :=
  AC.of (fun _ => []) Try.func100 rfl (by kernel_rfl) mixed (by kernel_rfl) (by kernel_rfl) rfl hl h
/-! ### function 101: codewright/matrix.eliminate$4 -/
def pl101 : Nat → Plan
  | 0 => [(0, []), (1, []), (2, []), (3, []), (4, []), (5, []), (6, []), (8, []), (9, []), (10, []), (11, []), (7, [0, 2, 4, 9, 11]), (12, [])]
  | _ => []
def s101 : SC :=
  .draw [(0, [], ⟨some 6, .load 75 (.tmp 1), none⟩),
    (1, [], ⟨some 7, .move (.tmp 0), none⟩),
    (2, [], ⟨some 8, .load 3 (.tmp 2), none⟩),
    (3, [], ⟨some 9, .indexAddr 25 (.tmp 7) (.tmp 8), none⟩),
    (4, [], ⟨some 10, .load 22 (.tmp 9), none⟩),
    (5, [], ⟨some 11, .load 75 (.tmp 1), none⟩),
    (6, [], ⟨some 12, .load 3 (.tmp 3), none⟩),
    (8, [], ⟨some 14, .move (.tmp 0), none⟩),
    (9, [], ⟨some 15, .load 3 (.tmp 4), none⟩),
    (10, [], ⟨some 16, .indexAddr 25 (.tmp 14) (.tmp 15), none⟩),
    (11, [], ⟨some 17, .load 22 (.tmp 16), none⟩),
    (7, [0, 2, 4, 9, 11], ⟨some 13, .call { callee := .value (.func 59), args := #[.tmp 11, .tmp 12], argTypes := #[75, 3] }, none⟩),
    (12, [], ⟨some 18, .call { callee := .value (.func 102), args := #[.tmp 6, .tmp 10, .tmp 13, .tmp 17], argTypes := #[75, 22, 3, 22] }, none⟩)]
theorem at101 {args : List AV} {H : AH} {Q : AV → AH → Prop} (hl : args.length ≤ 19) (h : swp Try.prog s101 (fin Try.prog [] Q) (env0 args) H) : AC Try.prog 101 args H Q :=
  AC.of (pl101) Try.func101 rfl (by kernel_rfl) mixed (by kernel_rfl) (by kernel_rfl) rfl hl h
/-! ### function 102: codewright/matrix.add -/
def pl102 : Nat → Plan
  | 4 => [(0, []), (1, []), (2, []), (3, []), (4, []), (5, []), (6, []), (7, []), (8, []), (9, []), (10, [6]), (11, []), (12, []), (13, [])]
  | _ => []
def s102 : SC :=
  .seq (.reg [⟨some 10, .move (.tmp 3), none⟩,
    ⟨some 11, .call { callee := .builtin .len, args := #[.tmp 10], argTypes := #[22] }, none⟩,
    ⟨some 12, .move (.const (.int .i64 0)), none⟩]) (.block 0 (.loop (.seq (.reg [⟨some 13, .binOp .lss 3 (.tmp 12) (.tmp 11) 3, none⟩]) (.seq (.cond (.tmp 13) .skip (.exit 0)) (.seq (.block 1 (.seq (.reg [⟨some 14, .move (.tmp 12), none⟩,
    ⟨some 15, .indexAddr 22 (.tmp 10) (.tmp 12), none⟩,
    ⟨some 16, .load 3 (.tmp 15), none⟩,
    ⟨some 8, .assign (.tmp 14), none⟩,
    ⟨some 9, .assign (.tmp 16), none⟩]) (.seq (.reg [⟨some 17, .move (.tmp 9), none⟩,
    ⟨some 18, .binOp .neq 3 (.tmp 17) (.const (.int .i64 0)) 3, none⟩]) (.cond (.tmp 18) (.draw [(0, [], ⟨some 19, .move (.tmp 1), none⟩),
    (1, [], ⟨some 20, .move (.tmp 8), none⟩),
    (2, [], ⟨some 21, .move (.tmp 0), none⟩),
    (3, [], ⟨some 22, .move (.tmp 1), none⟩),
    (4, [], ⟨some 23, .move (.tmp 8), none⟩),
    (5, [], ⟨some 24, .indexAddr 22 (.tmp 22) (.tmp 23), none⟩),
    (6, [], ⟨some 25, .load 3 (.tmp 24), none⟩),
    (7, [], ⟨some 26, .move (.tmp 0), none⟩),
    (8, [], ⟨some 27, .move (.tmp 2), none⟩),
    (9, [], ⟨some 28, .move (.tmp 9), none⟩),
    (10, [6], ⟨some 29, .call { callee := .value (.func 97), args := #[.tmp 26, .tmp 27, .tmp 28], argTypes := #[75, 3, 3] }, none⟩),
    (11, [], ⟨some 30, .call { callee := .value (.func 112), args := #[.tmp 21, .tmp 25, .tmp 29], argTypes := #[75, 3, 3] }, none⟩),
    (12, [], ⟨some 31, .indexAddr 22 (.tmp 19) (.tmp 20), none⟩),
    (13, [], ⟨none, .store 3 (.tmp 31) (.tmp 30), none⟩)]) .skip)))) (.reg [⟨some 32, .binOp .add 3 (.tmp 12) (.const (.int .i64 1)) 3, none⟩,
    ⟨some 12, .move (.tmp 32), none⟩]))))))
theorem at102 {args : List AV} {H : AH} {Q : AV → AH → Prop} (hl : args.length ≤ 33) (h : swp Try.prog s102 (fin Try.prog [] Q) (env0 args) H) : AC Try.prog 102 args H Q :=
  AC.of (pl102) Try.func102 rfl (by kernel_rfl) mixed (by kernel_rfl) (by kernel_rfl) rfl hl h
/-! ### function 103: (*codewright/field.GF).Is -/
def s103 : SC :=
  .seq (.reg [⟨some 4, .assign (.const (.bool false)), none⟩]) (.seq (.reg [⟨some 5, .move (.tmp 1), none⟩,
    ⟨some 6, .binOp .geq 3 (.tmp 5) (.const (.int .i64 0)) 3, none⟩,
    ⟨some 7, .move (.tmp 6), none⟩,
    ⟨some 8, .move (.tmp 1), some (7, true)⟩,
    ⟨some 9, .move (.tmp 0), some (7, true)⟩,
    ⟨some 10, .nilCheck (.tmp 9), some (7, true)⟩,
    ⟨some 11, .fieldAddr 101 (.tmp 10) 1, some (7, true)⟩,
    ⟨some 12, .load 3 (.tmp 11), some (7, true)⟩,
    ⟨some 13, .binOp .lss 3 (.tmp 8) (.tmp 12) 3, some (7, true)⟩,
    ⟨some 14, .pick (.tmp 7) (.tmp 13) (.const (.bool false)), none⟩,
    ⟨some 4, .assign (.tmp 14), none⟩]) .ret)
theorem at103 {args : List AV} {H : AH} {Q : AV → AH → Prop} (hl : args.length ≤ 15) (h : swp Try.prog s103 (fin Try.prog [.tmp 4] Q) (env0 args) H) : AC Try.prog 103 args H Q :=
  AC.of (fun _ => []) Try.func103 rfl (by kernel_rfl) mixed (by kernel_rfl) (by kernel_rfl) rfl hl h
/-! ### function 104: codewright/field.digitsOf -/
def s104 : SC :=
  .seq (.reg [⟨some 6, .assign (.const (.slice none 0 0)), none⟩]) (.seq (.reg [⟨some 9, .move (.tmp 2), none⟩,
    ⟨some 10, .makeSlice 22 (.tmp 9) (.tmp 9), none⟩,
    ⟨some 7, .assign (.tmp 10), none⟩]) (.seq (.seq (.reg [⟨some 11, .move (.tmp 7), none⟩,
    ⟨some 12, .call { callee := .builtin .len, args := #[.tmp 11], argTypes := #[22] }, none⟩,
    ⟨some 13, .move (.const (.int .i64 0)), none⟩]) (.block 0 (.loop (.seq (.reg [⟨some 14, .binOp .lss 3 (.tmp 13) (.tmp 12) 3, none⟩]) (.seq (.cond (.tmp 14) .skip (.exit 0)) (.seq (.block 1 (.seq (.reg [⟨some 15, .move (.tmp 13), none⟩,
    ⟨some 8, .assign (.tmp 15), none⟩]) (.seq (.reg [⟨some 16, .move (.tmp 7), none⟩,
    ⟨some 17, .move (.tmp 8), none⟩,
    ⟨some 18, .move (.tmp 0), none⟩,
    ⟨some 19, .move (.tmp 1), none⟩,
    ⟨some 20, .binOp .rem 3 (.tmp 18) (.tmp 19) 3, none⟩,
    ⟨some 21, .indexAddr 22 (.tmp 16) (.tmp 17), none⟩,
    ⟨none, .store 3 (.tmp 21) (.tmp 20), none⟩]) (.reg [⟨some 22, .move (.tmp 0), none⟩,
    ⟨some 23, .move (.tmp 1), none⟩,
    ⟨some 24, .binOp .quo 3 (.tmp 22) (.tmp 23) 3, none⟩,
    ⟨some 0, .assign (.tmp 24), none⟩])))) (.reg [⟨some 25, .binOp .add 3 (.tmp 13) (.const (.int .i64 1)) 3, none⟩,
    ⟨some 13, .move (.tmp 25), none⟩]))))))) (.seq (.reg [⟨some 26, .move (.tmp 7), none⟩,
    ⟨some 6, .assign (.tmp 26), none⟩]) .ret)))
theorem at104 {args : List AV} {H : AH} {Q : AV → AH → Prop} (hl : args.length ≤ 27) (h : swp Try.prog s104 (fin Try.prog [.tmp 6] Q) (env0 args) H) : AC Try.prog 104 args H Q :=
  AC.of (fun _ => []) Try.func104 rfl (by kernel_rfl) mixed (by kernel_rfl) (by kernel_rfl) rfl hl h
/-! ### function 105: codewright/field.valueOf -/
def s105 : SC :=
  .seq (.reg [⟨some 4, .assign (.const (.int .i64 0)), none⟩]) (.seq (.reg [⟨some 5, .assign (.const (.int .i64 0)), none⟩]) (.seq (.seq (.reg [⟨some 7, .move (.tmp 0), none⟩,
    ⟨some 8, .call { callee := .builtin .len, args := #[.tmp 7], argTypes := #[22] }, none⟩,
    ⟨some 9, .binOp .sub 3 (.tmp 8) (.const (.int .i64 1)) 3, none⟩,
    ⟨some 6, .assign (.tmp 9), none⟩]) (.block 0 (.loop (.seq (.seq (.reg [⟨some 10, .move (.tmp 6), none⟩,
    ⟨some 11, .binOp .geq 3 (.tmp 10) (.const (.int .i64 0)) 3, none⟩]) (.cond (.tmp 11) .skip (.exit 0))) (.seq (.block 1 (.reg [⟨some 14, .move (.tmp 5), none⟩,
    ⟨some 15, .move (.tmp 1), none⟩,
    ⟨some 16, .binOp .mul 3 (.tmp 14) (.tmp 15) 3, none⟩,
    ⟨some 17, .move (.tmp 0), none⟩,
    ⟨some 18, .move (.tmp 6), none⟩,
    ⟨some 19, .indexAddr 22 (.tmp 17) (.tmp 18), none⟩,
    ⟨some 20, .load 3 (.tmp 19), none⟩,
    ⟨some 21, .binOp .add 3 (.tmp 16) (.tmp 20) 3, none⟩,
    ⟨some 5, .assign (.tmp 21), none⟩])) (.reg [⟨some 12, .move (.tmp 6), none⟩,
    ⟨some 13, .binOp .sub 3 (.tmp 12) (.const (.int .i64 1)) 3, none⟩,
    ⟨some 6, .assign (.tmp 13), none⟩])))))) (.seq (.reg [⟨some 22, .move (.tmp 5), none⟩,
    ⟨some 4, .assign (.tmp 22), none⟩]) .ret)))
theorem at105 {args : List AV} {H : AH} {Q : AV → AH → Prop} (hl : args.length ≤ 23) (h : swp Try.prog s105 (fin Try.prog [.tmp 4] Q) (env0 args) H) : AC Try.prog 105 args H Q :=
  AC.of (fun _ => []) Try.func105 rfl (by kernel_rfl) mixed (by kernel_rfl) (by kernel_rfl) rfl hl h
/-! ### function 106: (*codewright/infoset.basis).add -/
def pl106 : Nat → Plan
  | 9 => [(0, []), (1, []), (2, []), (3, []), (4, []), (5, []), (6, []), (7, []), (8, []), (9, []), (10, []), (11, []), (12, []), (13, []), (14, []), (15, []), (16, [5, 9]), (17, []), (18, []), (19, [])]
  | 15 => [(0, []), (1, []), (2, []), (3, []), (4, []), (5, []), (6, []), (7, []), (8, []), (9, []), (10, []), (11, []), (12, []), (13, [])]
  | 16 => [(0, []), (1, []), (2, []), (3, []), (4, []), (5, []), (6, []), (7, []), (8, []), (9, []), (10, []), (11, [4]), (12, []), (13, []), (14, []), (15, []), (16, [])]
  | _ => []
def s106 : SC :=
  .seq (.reg [⟨some 4, .assign (.const (.bool false)), none⟩]) (.seq (.seq (.reg [⟨some 13, .move (.tmp 0), none⟩,
    ⟨some 14, .nilCheck (.tmp 13), none⟩,
    ⟨some 15, .fieldAddr 122 (.tmp 14) 1, none⟩,
    ⟨some 16, .load 25 (.tmp 15), none⟩,
    ⟨some 17, .call { callee := .builtin .len, args := #[.tmp 16], argTypes := #[25] }, none⟩,
    ⟨some 18, .move (.const (.int .i64 0)), none⟩]) (.block 0 (.loop (.seq (.reg [⟨some 19, .binOp .lss 3 (.tmp 18) (.tmp 17) 3, none⟩]) (.seq (.cond (.tmp 19) .skip (.exit 0)) (.seq (.block 1 (.seq (.reg [⟨some 20, .move (.tmp 18), none⟩,
    ⟨some 21, .indexAddr 25 (.tmp 16) (.tmp 18), none⟩,
    ⟨some 22, .load 22 (.tmp 21), none⟩,
    ⟨some 5, .assign (.tmp 20), none⟩,
    ⟨some 6, .assign (.tmp 22), none⟩]) (.seq (.reg [⟨some 23, .move (.tmp 1), none⟩,
    ⟨some 24, .move (.tmp 0), none⟩,
    ⟨some 25, .nilCheck (.tmp 24), none⟩,
    ⟨some 26, .fieldAddr 122 (.tmp 25) 2, none⟩,
    ⟨some 27, .load 22 (.tmp 26), none⟩,
    ⟨some 28, .move (.tmp 5), none⟩,
    ⟨some 29, .indexAddr 22 (.tmp 27) (.tmp 28), none⟩,
    ⟨some 30, .load 3 (.tmp 29), none⟩,
    ⟨some 31, .indexAddr 22 (.tmp 23) (.tmp 30), none⟩,
    ⟨some 32, .load 3 (.tmp 31), none⟩,
    ⟨some 7, .assign (.tmp 32), none⟩]) (.seq (.reg [⟨some 33, .move (.tmp 7), none⟩,
    ⟨some 34, .binOp .neq 3 (.tmp 33) (.const (.int .i64 0)) 3, none⟩]) (.cond (.tmp 34) (.seq (.reg [⟨some 35, .move (.tmp 6), none⟩,
    ⟨some 36, .call { callee := .builtin .len, args := #[.tmp 35], argTypes := #[22] }, none⟩,
    ⟨some 37, .move (.const (.int .i64 0)), none⟩]) (.block 2 (.loop (.seq (.reg [⟨some 38, .binOp .lss 3 (.tmp 37) (.tmp 36) 3, none⟩]) (.seq (.cond (.tmp 38) .skip (.exit 2)) (.seq (.block 3 (.seq (.reg [⟨some 39, .move (.tmp 37), none⟩,
    ⟨some 40, .indexAddr 22 (.tmp 35) (.tmp 37), none⟩,
    ⟨some 41, .load 3 (.tmp 40), none⟩,
    ⟨some 8, .assign (.tmp 39), none⟩,
    ⟨some 9, .assign (.tmp 41), none⟩]) (.draw [(0, [], ⟨some 42, .move (.tmp 1), none⟩),
    (1, [], ⟨some 43, .move (.tmp 8), none⟩),
    (2, [], ⟨some 44, .move (.tmp 0), none⟩),
    (3, [], ⟨some 45, .nilCheck (.tmp 44), none⟩),
    (4, [], ⟨some 46, .fieldAddr 122 (.tmp 45) 0, none⟩),
    (5, [], ⟨some 47, .load 75 (.tmp 46), none⟩),
    (6, [], ⟨some 48, .move (.tmp 1), none⟩),
    (7, [], ⟨some 49, .move (.tmp 8), none⟩),
    (8, [], ⟨some 50, .indexAddr 22 (.tmp 48) (.tmp 49), none⟩),
    (9, [], ⟨some 51, .load 3 (.tmp 50), none⟩),
    (10, [], ⟨some 52, .move (.tmp 0), none⟩),
    (11, [], ⟨some 53, .nilCheck (.tmp 52), none⟩),
    (12, [], ⟨some 54, .fieldAddr 122 (.tmp 53) 0, none⟩),
    (13, [], ⟨some 55, .load 75 (.tmp 54), none⟩),
    (14, [], ⟨some 56, .move (.tmp 7), none⟩),
    (15, [], ⟨some 57, .move (.tmp 9), none⟩),
    (16, [5, 9], ⟨some 58, .call { callee := .value (.func 97), args := #[.tmp 55, .tmp 56, .tmp 57], argTypes := #[75, 3, 3] }, none⟩),
    (17, [], ⟨some 59, .call { callee := .value (.func 113), args := #[.tmp 47, .tmp 51, .tmp 58], argTypes := #[75, 3, 3] }, none⟩),
    (18, [], ⟨some 60, .indexAddr 22 (.tmp 42) (.tmp 43), none⟩),
    (19, [], ⟨none, .store 3 (.tmp 60) (.tmp 59), none⟩)]))) (.reg [⟨some 61, .binOp .add 3 (.tmp 37) (.const (.int .i64 1)) 3, none⟩,
    ⟨some 37, .move (.tmp 61), none⟩]))))))) .skip))))) (.reg [⟨some 62, .binOp .add 3 (.tmp 18) (.const (.int .i64 1)) 3, none⟩,
    ⟨some 18, .move (.tmp 62), none⟩]))))))) (.seq (.reg [⟨some 63, .move (.tmp 1), none⟩,
    ⟨some 64, .call { callee := .value (.func 114), args := #[.tmp 63, .func 115], argTypes := #[22, 70] }, none⟩,
    ⟨some 10, .assign (.tmp 64), none⟩]) (.seq (.seq (.reg [⟨some 65, .move (.tmp 10), none⟩,
    ⟨some 66, .binOp .lss 3 (.tmp 65) (.const (.int .i64 0)) 3, none⟩]) (.cond (.tmp 66) (.seq (.reg [⟨some 4, .assign (.const (.bool false)), none⟩]) .ret) .skip)) (.seq (.draw [(0, [], ⟨some 68, .move (.tmp 0), none⟩),
    (1, [], ⟨some 69, .nilCheck (.tmp 68), none⟩),
    (2, [], ⟨some 70, .fieldAddr 122 (.tmp 69) 0, none⟩),
    (3, [], ⟨some 71, .load 75 (.tmp 70), none⟩),
    (4, [], ⟨some 72, .move (.tmp 1), none⟩),
    (5, [], ⟨some 73, .move (.tmp 10), none⟩),
    (6, [], ⟨some 74, .indexAddr 22 (.tmp 72) (.tmp 73), none⟩),
    (7, [], ⟨some 75, .load 3 (.tmp 74), none⟩),
    (8, [], ⟨some 76, .call { callee := .value (.func 98), args := #[.tmp 71, .tmp 75], argTypes := #[75, 3] }, none⟩),
    (9, [], ⟨some 67, .move (.tmp 76), none⟩),
    (10, [], ⟨some 77, .extract (.tmp 67) 0, none⟩),
    (11, [], ⟨some 78, .extract (.tmp 67) 1, none⟩),
    (12, [], ⟨some 11, .assign (.tmp 77), none⟩),
    (13, [], ⟨some 12, .assign (.tmp 78), none⟩)]) (.seq (.draw [(0, [], ⟨some 79, .move (.tmp 0), none⟩),
    (1, [], ⟨some 80, .move (.tmp 0), none⟩),
    (2, [], ⟨some 81, .nilCheck (.tmp 80), none⟩),
    (3, [], ⟨some 82, .fieldAddr 122 (.tmp 81) 1, none⟩),
    (4, [], ⟨some 83, .load 25 (.tmp 82), none⟩),
    (5, [], ⟨some 84, .move (.tmp 0), none⟩),
    (6, [], ⟨some 85, .nilCheck (.tmp 84), none⟩),
    (7, [], ⟨some 86, .fieldAddr 122 (.tmp 85) 0, none⟩),
    (8, [], ⟨some 87, .load 75 (.tmp 86), none⟩),
    (9, [], ⟨some 88, .move (.tmp 11), none⟩),
    (10, [], ⟨some 89, .move (.tmp 1), none⟩),
    (11, [4], ⟨some 90, .call { callee := .value (.func 100), args := #[.tmp 87, .tmp 88, .tmp 89], argTypes := #[75, 3, 22] }, none⟩),
    (12, [], ⟨some 91, .buildSlice 25 1 #[(0, .tmp 90)], none⟩),
    (13, [], ⟨some 92, .call { callee := .builtin .append, args := #[.tmp 83, .tmp 91], argTypes := #[25, 25] }, none⟩),
    (14, [], ⟨some 93, .nilCheck (.tmp 79), none⟩),
    (15, [], ⟨some 94, .fieldAddr 122 (.tmp 93) 1, none⟩),
    (16, [], ⟨none, .store 25 (.tmp 94) (.tmp 92), none⟩)]) (.seq (.reg [⟨some 95, .move (.tmp 0), none⟩,
    ⟨some 96, .move (.tmp 0), none⟩,
    ⟨some 97, .nilCheck (.tmp 96), none⟩,
    ⟨some 98, .fieldAddr 122 (.tmp 97) 2, none⟩,
    ⟨some 99, .load 22 (.tmp 98), none⟩,
    ⟨some 100, .move (.tmp 10), none⟩,
    ⟨some 101, .buildSlice 22 1 #[(0, .tmp 100)], none⟩,
    ⟨some 102, .call { callee := .builtin .append, args := #[.tmp 99, .tmp 101], argTypes := #[22, 22] }, none⟩,
    ⟨some 103, .nilCheck (.tmp 95), none⟩,
    ⟨some 104, .fieldAddr 122 (.tmp 103) 2, none⟩,
    ⟨none, .store 22 (.tmp 104) (.tmp 102), none⟩]) (.seq (.reg [⟨some 4, .assign (.const (.bool true)), none⟩]) .ret)))))))
theorem at106 {args : List AV} {H : AH} {Q : AV → AH → Prop} (hl : args.length ≤ 105) (h : swp Try.prog s106 (fin Try.prog [.tmp 4] Q) (env0 args) H) : AC Try.prog 106 args H Q :=
  AC.of (pl106) Try.func106 rfl (by kernel_rfl) mixed (by kernel_rfl) (by kernel_rfl) rfl hl h
/-! ### function 107: codewright/infoset.column -/
def s107 : SC :=
  .seq (.reg [⟨some 2, .box 27 (.tmp 0), none⟩,
    ⟨some 4, .assign (.const (.slice none 0 0)), none⟩]) (.seq (.reg [⟨some 8, .fieldAddr 27 (.tmp 2) 2, none⟩,
    ⟨some 9, .load 25 (.tmp 8), none⟩,
    ⟨some 10, .call { callee := .builtin .len, args := #[.tmp 9], argTypes := #[25] }, none⟩,
    ⟨some 11, .makeSlice 22 (.tmp 10) (.tmp 10), none⟩,
    ⟨some 5, .assign (.tmp 11), none⟩]) (.seq (.seq (.reg [⟨some 12, .fieldAddr 27 (.tmp 2) 2, none⟩,
    ⟨some 13, .load 25 (.tmp 12), none⟩,
    ⟨some 14, .call { callee := .builtin .len, args := #[.tmp 13], argTypes := #[25] }, none⟩,
    ⟨some 15, .move (.const (.int .i64 0)), none⟩]) (.block 0 (.loop (.seq (.reg [⟨some 16, .binOp .lss 3 (.tmp 15) (.tmp 14) 3, none⟩]) (.seq (.cond (.tmp 16) .skip (.exit 0)) (.seq (.block 1 (.seq (.reg [⟨some 17, .move (.tmp 15), none⟩,
    ⟨some 18, .indexAddr 25 (.tmp 13) (.tmp 15), none⟩,
    ⟨some 19, .load 22 (.tmp 18), none⟩,
    ⟨some 6, .assign (.tmp 17), none⟩,
    ⟨some 7, .assign (.tmp 19), none⟩]) (.reg [⟨some 20, .move (.tmp 5), none⟩,
    ⟨some 21, .move (.tmp 6), none⟩,
    ⟨some 22, .move (.tmp 7), none⟩,
    ⟨some 23, .move (.tmp 1), none⟩,
    ⟨some 24, .indexAddr 22 (.tmp 22) (.tmp 23), none⟩,
    ⟨some 25, .load 3 (.tmp 24), none⟩,
    ⟨some 26, .indexAddr 22 (.tmp 20) (.tmp 21), none⟩,
    ⟨none, .store 3 (.tmp 26) (.tmp 25), none⟩]))) (.reg [⟨some 27, .binOp .add 3 (.tmp 15) (.const (.int .i64 1)) 3, none⟩,
    ⟨some 15, .move (.tmp 27), none⟩]))))))) (.seq (.reg [⟨some 28, .move (.tmp 5), none⟩,
    ⟨some 4, .assign (.tmp 28), none⟩]) .ret)))
theorem at107 {args : List AV} {H : AH} {Q : AV → AH → Prop} (hl : args.length ≤ 29) (h : swp Try.prog s107 (fin Try.prog [.tmp 4] Q) (env0 args) H) : AC Try.prog 107 args H Q :=
  AC.of (fun _ => []) Try.func107 rfl (by kernel_rfl) mixed (by kernel_rfl) (by kernel_rfl) rfl hl h
/-! ### function 108: codewright/codewrightref04.Mul -/
def pl108 : Nat → Plan
  | 10 => [(0, []), (1, []), (2, []), (3, []), (4, []), (5, []), (6, []), (7, []), (8, []), (9, []), (10, []), (11, []), (12, []), (13, []), (14, []), (15, []), (16, []), (17, []), (18, []), (19, []), (20, []), (21, []), (22, []), (23, []), (24, [])]
  | 17 => [(0, []), (1, []), (2, []), (3, []), (4, []), (5, []), (6, []), (7, []), (8, []), (9, []), (10, []), (11, []), (12, []), (13, []), (14, []), (15, []), (16, []), (17, []), (18, []), (19, []), (20, []), (21, []), (22, []), (23, []), (24, []), (25, []), (26, []), (27, []), (28, []), (29, []), (30, []), (31, []), (32, []), (33, []), (34, [])]
  | 18 => [(0, []), (1, []), (2, []), (3, []), (4, []), (5, []), (6, [])]
  | _ => []
def s108 : SC :=
  .seq (.reg [⟨some 3, .box 24 (.tmp 0), none⟩,
    ⟨some 6, .assign (.const (.int .i64 0)), none⟩]) (.seq (.reg [⟨some 14, .load 24 (.tmp 3), none⟩,
    ⟨some 15, .move (.tmp 1), none⟩,
    ⟨some 16, .call { callee := .value (.func 110), args := #[.tmp 14, .tmp 15], argTypes := #[24, 3] }, none⟩,
    ⟨some 7, .assign (.tmp 16), none⟩]) (.seq (.reg [⟨some 17, .load 24 (.tmp 3), none⟩,
    ⟨some 18, .move (.tmp 2), none⟩,
    ⟨some 19, .call { callee := .value (.func 110), args := #[.tmp 17, .tmp 18], argTypes := #[24, 3] }, none⟩,
    ⟨some 8, .assign (.tmp 19), none⟩]) (.seq (.reg [⟨some 20, .fieldAddr 24 (.tmp 3) 1, none⟩,
    ⟨some 21, .load 3 (.tmp 20), none⟩,
    ⟨some 22, .binOp .mul 3 (.const (.int .i64 2)) (.tmp 21) 3, none⟩,
    ⟨some 23, .binOp .sub 3 (.tmp 22) (.const (.int .i64 1)) 3, none⟩,
    ⟨some 24, .makeSlice 22 (.tmp 23) (.tmp 23), none⟩,
    ⟨some 9, .assign (.tmp 24), none⟩]) (.seq (.seq (.reg [⟨some 10, .assign (.const (.int .i64 0)), none⟩]) (.block 0 (.loop (.seq (.seq (.reg [⟨some 25, .move (.tmp 10), none⟩,
    ⟨some 26, .fieldAddr 24 (.tmp 3) 1, none⟩,
    ⟨some 27, .load 3 (.tmp 26), none⟩,
    ⟨some 28, .binOp .lss 3 (.tmp 25) (.tmp 27) 3, none⟩]) (.cond (.tmp 28) .skip (.exit 0))) (.seq (.block 1 (.seq (.reg [⟨some 11, .assign (.const (.int .i64 0)), none⟩]) (.block 2 (.loop (.seq (.seq (.reg [⟨some 31, .move (.tmp 11), none⟩,
    ⟨some 32, .fieldAddr 24 (.tmp 3) 1, none⟩,
    ⟨some 33, .load 3 (.tmp 32), none⟩,
    ⟨some 34, .binOp .lss 3 (.tmp 31) (.tmp 33) 3, none⟩]) (.cond (.tmp 34) .skip (.exit 2))) (.seq (.block 3 (.draw [(0, [], ⟨some 37, .move (.tmp 9), none⟩),
    (1, [], ⟨some 38, .move (.tmp 10), none⟩),
    (2, [], ⟨some 39, .move (.tmp 11), none⟩),
    (3, [], ⟨some 40, .binOp .add 3 (.tmp 38) (.tmp 39) 3, none⟩),
    (4, [], ⟨some 41, .move (.tmp 9), none⟩),
    (5, [], ⟨some 42, .move (.tmp 10), none⟩),
    (6, [], ⟨some 43, .move (.tmp 11), none⟩),
    (7, [], ⟨some 44, .binOp .add 3 (.tmp 42) (.tmp 43) 3, none⟩),
    (8, [], ⟨some 45, .indexAddr 22 (.tmp 41) (.tmp 44), none⟩),
    (9, [], ⟨some 46, .load 3 (.tmp 45), none⟩),
    (10, [], ⟨some 47, .move (.tmp 7), none⟩),
    (11, [], ⟨some 48, .move (.tmp 10), none⟩),
    (12, [], ⟨some 49, .indexAddr 22 (.tmp 47) (.tmp 48), none⟩),
    (13, [], ⟨some 50, .load 3 (.tmp 49), none⟩),
    (14, [], ⟨some 51, .move (.tmp 8), none⟩),
    (15, [], ⟨some 52, .move (.tmp 11), none⟩),
    (16, [], ⟨some 53, .indexAddr 22 (.tmp 51) (.tmp 52), none⟩),
    (17, [], ⟨some 54, .load 3 (.tmp 53), none⟩),
    (18, [], ⟨some 55, .binOp .mul 3 (.tmp 50) (.tmp 54) 3, none⟩),
    (19, [], ⟨some 56, .binOp .add 3 (.tmp 46) (.tmp 55) 3, none⟩),
    (20, [], ⟨some 57, .fieldAddr 24 (.tmp 3) 0, none⟩),
    (21, [], ⟨some 58, .load 3 (.tmp 57), none⟩),
    (22, [], ⟨some 59, .binOp .rem 3 (.tmp 56) (.tmp 58) 3, none⟩),
    (23, [], ⟨some 60, .indexAddr 22 (.tmp 37) (.tmp 40), none⟩),
    (24, [], ⟨none, .store 3 (.tmp 60) (.tmp 59), none⟩)])) (.reg [⟨some 35, .move (.tmp 11), none⟩,
    ⟨some 36, .binOp .add 3 (.tmp 35) (.const (.int .i64 1)) 3, none⟩,
    ⟨some 11, .assign (.tmp 36), none⟩]))))))) (.reg [⟨some 29, .move (.tmp 10), none⟩,
    ⟨some 30, .binOp .add 3 (.tmp 29) (.const (.int .i64 1)) 3, none⟩,
    ⟨some 10, .assign (.tmp 30), none⟩])))))) (.seq (.seq (.reg [⟨some 61, .fieldAddr 24 (.tmp 3) 1, none⟩,
    ⟨some 62, .load 3 (.tmp 61), none⟩,
    ⟨some 63, .binOp .mul 3 (.const (.int .i64 2)) (.tmp 62) 3, none⟩,
    ⟨some 64, .binOp .sub 3 (.tmp 63) (.const (.int .i64 2)) 3, none⟩,
    ⟨some 12, .assign (.tmp 64), none⟩]) (.block 4 (.loop (.seq (.seq (.reg [⟨some 65, .move (.tmp 12), none⟩,
    ⟨some 66, .fieldAddr 24 (.tmp 3) 1, none⟩,
    ⟨some 67, .load 3 (.tmp 66), none⟩,
    ⟨some 68, .binOp .geq 3 (.tmp 65) (.tmp 67) 3, none⟩]) (.cond (.tmp 68) .skip (.exit 4))) (.seq (.block 5 (.seq (.reg [⟨some 13, .assign (.const (.int .i64 0)), none⟩]) (.block 6 (.loop (.seq (.seq (.reg [⟨some 71, .move (.tmp 13), none⟩,
    ⟨some 72, .fieldAddr 24 (.tmp 3) 1, none⟩,
    ⟨some 73, .load 3 (.tmp 72), none⟩,
    ⟨some 74, .binOp .lss 3 (.tmp 71) (.tmp 73) 3, none⟩]) (.cond (.tmp 74) .skip (.exit 6))) (.seq (.block 7 (.draw [(0, [], ⟨some 77, .move (.tmp 9), none⟩),
    (1, [], ⟨some 78, .move (.tmp 12), none⟩),
    (2, [], ⟨some 79, .fieldAddr 24 (.tmp 3) 1, none⟩),
    (3, [], ⟨some 80, .load 3 (.tmp 79), none⟩),
    (4, [], ⟨some 81, .binOp .sub 3 (.tmp 78) (.tmp 80) 3, none⟩),
    (5, [], ⟨some 82, .move (.tmp 13), none⟩),
    (6, [], ⟨some 83, .binOp .add 3 (.tmp 81) (.tmp 82) 3, none⟩),
    (7, [], ⟨some 84, .move (.tmp 9), none⟩),
    (8, [], ⟨some 85, .move (.tmp 12), none⟩),
    (9, [], ⟨some 86, .fieldAddr 24 (.tmp 3) 1, none⟩),
    (10, [], ⟨some 87, .load 3 (.tmp 86), none⟩),
    (11, [], ⟨some 88, .binOp .sub 3 (.tmp 85) (.tmp 87) 3, none⟩),
    (12, [], ⟨some 89, .move (.tmp 13), none⟩),
    (13, [], ⟨some 90, .binOp .add 3 (.tmp 88) (.tmp 89) 3, none⟩),
    (14, [], ⟨some 91, .indexAddr 22 (.tmp 84) (.tmp 90), none⟩),
    (15, [], ⟨some 92, .load 3 (.tmp 91), none⟩),
    (16, [], ⟨some 93, .fieldAddr 24 (.tmp 3) 0, none⟩),
    (17, [], ⟨some 94, .load 3 (.tmp 93), none⟩),
    (18, [], ⟨some 95, .move (.tmp 9), none⟩),
    (19, [], ⟨some 96, .move (.tmp 12), none⟩),
    (20, [], ⟨some 97, .indexAddr 22 (.tmp 95) (.tmp 96), none⟩),
    (21, [], ⟨some 98, .load 3 (.tmp 97), none⟩),
    (22, [], ⟨some 99, .binOp .sub 3 (.tmp 94) (.tmp 98) 3, none⟩),
    (23, [], ⟨some 100, .fieldAddr 24 (.tmp 3) 2, none⟩),
    (24, [], ⟨some 101, .load 22 (.tmp 100), none⟩),
    (25, [], ⟨some 102, .move (.tmp 13), none⟩),
    (26, [], ⟨some 103, .indexAddr 22 (.tmp 101) (.tmp 102), none⟩),
    (27, [], ⟨some 104, .load 3 (.tmp 103), none⟩),
    (28, [], ⟨some 105, .binOp .mul 3 (.tmp 99) (.tmp 104) 3, none⟩),
    (29, [], ⟨some 106, .binOp .add 3 (.tmp 92) (.tmp 105) 3, none⟩),
    (30, [], ⟨some 107, .fieldAddr 24 (.tmp 3) 0, none⟩),
    (31, [], ⟨some 108, .load 3 (.tmp 107), none⟩),
    (32, [], ⟨some 109, .binOp .rem 3 (.tmp 106) (.tmp 108) 3, none⟩),
    (33, [], ⟨some 110, .indexAddr 22 (.tmp 77) (.tmp 83), none⟩),
    (34, [], ⟨none, .store 3 (.tmp 110) (.tmp 109), none⟩)])) (.reg [⟨some 75, .move (.tmp 13), none⟩,
    ⟨some 76, .binOp .add 3 (.tmp 75) (.const (.int .i64 1)) 3, none⟩,
    ⟨some 13, .assign (.tmp 76), none⟩]))))))) (.reg [⟨some 69, .move (.tmp 12), none⟩,
    ⟨some 70, .binOp .sub 3 (.tmp 69) (.const (.int .i64 1)) 3, none⟩,
    ⟨some 12, .assign (.tmp 70), none⟩])))))) (.seq (.draw [(0, [], ⟨some 111, .load 24 (.tmp 3), none⟩),
    (1, [], ⟨some 112, .move (.tmp 9), none⟩),
    (2, [], ⟨some 113, .fieldAddr 24 (.tmp 3) 1, none⟩),
    (3, [], ⟨some 114, .load 3 (.tmp 113), none⟩),
    (4, [], ⟨some 115, .slice 22 (.tmp 112) none (some (.tmp 114)) none, none⟩),
    (5, [], ⟨some 116, .call { callee := .value (.func 111), args := #[.tmp 111, .tmp 115], argTypes := #[24, 22] }, none⟩),
    (6, [], ⟨some 6, .assign (.tmp 116), none⟩)]) .ret))))))
theorem at108 {args : List AV} {H : AH} {Q : AV → AH → Prop} (hl : args.length ≤ 117) (h : swp Try.prog s108 (fin Try.prog [.tmp 6] Q) (env0 args) H) : AC Try.prog 108 args H Q :=
  AC.of (pl108) Try.func108 rfl (by kernel_rfl) mixed (by kernel_rfl) (by kernel_rfl) rfl hl h
/-! ### function 109: codewright/codewrightref04.Add -/
def pl109 : Nat → Plan
  | 6 => [(0, []), (1, []), (2, []), (3, []), (4, []), (5, []), (6, []), (7, []), (8, []), (9, []), (10, []), (11, []), (12, []), (13, []), (14, []), (15, [])]
  | _ => []
def s109 : SC :=
  .seq (.reg [⟨some 3, .box 24 (.tmp 0), none⟩,
    ⟨some 6, .assign (.const (.int .i64 0)), none⟩]) (.seq (.reg [⟨some 10, .load 24 (.tmp 3), none⟩,
    ⟨some 11, .move (.tmp 1), none⟩,
    ⟨some 12, .call { callee := .value (.func 110), args := #[.tmp 10, .tmp 11], argTypes := #[24, 3] }, none⟩,
    ⟨some 7, .assign (.tmp 12), none⟩]) (.seq (.reg [⟨some 13, .load 24 (.tmp 3), none⟩,
    ⟨some 14, .move (.tmp 2), none⟩,
    ⟨some 15, .call { callee := .value (.func 110), args := #[.tmp 13, .tmp 14], argTypes := #[24, 3] }, none⟩,
    ⟨some 8, .assign (.tmp 15), none⟩]) (.seq (.seq (.reg [⟨some 9, .assign (.const (.int .i64 0)), none⟩]) (.block 0 (.loop (.seq (.seq (.reg [⟨some 16, .move (.tmp 9), none⟩,
    ⟨some 17, .move (.tmp 7), none⟩,
    ⟨some 18, .call { callee := .builtin .len, args := #[.tmp 17], argTypes := #[22] }, none⟩,
    ⟨some 19, .binOp .lss 3 (.tmp 16) (.tmp 18) 3, none⟩]) (.cond (.tmp 19) .skip (.exit 0))) (.seq (.block 1 (.draw [(0, [], ⟨some 22, .move (.tmp 7), none⟩),
    (1, [], ⟨some 23, .move (.tmp 9), none⟩),
    (2, [], ⟨some 24, .move (.tmp 7), none⟩),
    (3, [], ⟨some 25, .move (.tmp 9), none⟩),
    (4, [], ⟨some 26, .indexAddr 22 (.tmp 24) (.tmp 25), none⟩),
    (5, [], ⟨some 27, .load 3 (.tmp 26), none⟩),
    (6, [], ⟨some 28, .move (.tmp 8), none⟩),
    (7, [], ⟨some 29, .move (.tmp 9), none⟩),
    (8, [], ⟨some 30, .indexAddr 22 (.tmp 28) (.tmp 29), none⟩),
    (9, [], ⟨some 31, .load 3 (.tmp 30), none⟩),
    (10, [], ⟨some 32, .binOp .add 3 (.tmp 27) (.tmp 31) 3, none⟩),
    (11, [], ⟨some 33, .fieldAddr 24 (.tmp 3) 0, none⟩),
    (12, [], ⟨some 34, .load 3 (.tmp 33), none⟩),
    (13, [], ⟨some 35, .binOp .rem 3 (.tmp 32) (.tmp 34) 3, none⟩),
    (14, [], ⟨some 36, .indexAddr 22 (.tmp 22) (.tmp 23), none⟩),
    (15, [], ⟨none, .store 3 (.tmp 36) (.tmp 35), none⟩)])) (.reg [⟨some 20, .move (.tmp 9), none⟩,
    ⟨some 21, .binOp .add 3 (.tmp 20) (.const (.int .i64 1)) 3, none⟩,
    ⟨some 9, .assign (.tmp 21), none⟩])))))) (.seq (.reg [⟨some 37, .load 24 (.tmp 3), none⟩,
    ⟨some 38, .move (.tmp 7), none⟩,
    ⟨some 39, .call { callee := .value (.func 111), args := #[.tmp 37, .tmp 38], argTypes := #[24, 22] }, none⟩,
    ⟨some 6, .assign (.tmp 39), none⟩]) .ret))))
theorem at109 {args : List AV} {H : AH} {Q : AV → AH → Prop} (hl : args.length ≤ 40) (h : swp Try.prog s109 (fin Try.prog [.tmp 6] Q) (env0 args) H) : AC Try.prog 109 args H Q :=
  AC.of (pl109) Try.func109 rfl (by kernel_rfl) mixed (by kernel_rfl) (by kernel_rfl) rfl hl h
/-! ### function 110: codewright/codewrightref04.Digits -/
def pl110 : Nat → Plan
  | 1 => [(0, []), (1, []), (3, []), (4, []), (5, []), (6, []), (2, [4, 6]), (7, []), (8, [])]
  | _ => []
def s110 : SC :=
  .seq (.reg [⟨some 2, .box 24 (.tmp 0), none⟩,
    ⟨some 4, .assign (.const (.slice none 0 0)), none⟩]) (.seq (.draw [(0, [], ⟨some 5, .load 24 (.tmp 2), none⟩),
    (1, [], ⟨some 6, .move (.tmp 1), none⟩),
    (3, [], ⟨some 8, .fieldAddr 24 (.tmp 2) 0, none⟩),
    (4, [], ⟨some 9, .load 3 (.tmp 8), none⟩),
    (5, [], ⟨some 10, .fieldAddr 24 (.tmp 2) 1, none⟩),
    (6, [], ⟨some 11, .load 3 (.tmp 10), none⟩),
    (2, [4, 6], ⟨some 7, .call { callee := .value (.func 116), args := #[.tmp 5, .tmp 6], argTypes := #[24, 3] }, none⟩),
    (7, [], ⟨some 12, .call { callee := .value (.func 69), args := #[.tmp 7, .tmp 9, .tmp 11], argTypes := #[3, 3, 3] }, none⟩),
    (8, [], ⟨some 4, .assign (.tmp 12), none⟩)]) .ret)
theorem at110 {args : List AV} {H : AH} {Q : AV → AH → Prop} (hl : args.length ≤ 13) (h : swp Try.prog s110 (fin Try.prog [.tmp 4] Q) (env0 args) H) : AC Try.prog 110 args H Q :=
  AC.of (pl110) Try.func110 rfl (by kernel_rfl) mixed (by kernel_rfl) (by kernel_rfl) rfl hl h
/-! ### function 111: codewright/codewrightref04.Value -/
def pl111 : Nat → Plan
  | 5 => [(0, []), (1, []), (2, []), (3, []), (4, []), (5, []), (6, []), (7, []), (8, []), (9, [])]
  | _ => []
def s111 : SC :=
  .seq (.reg [⟨some 2, .box 24 (.tmp 0), none⟩,
    ⟨some 4, .assign (.const (.int .i64 0)), none⟩]) (.seq (.reg [⟨some 5, .assign (.const (.int .i64 0)), none⟩]) (.seq (.seq (.reg [⟨some 7, .move (.tmp 1), none⟩,
    ⟨some 8, .call { callee := .builtin .len, args := #[.tmp 7], argTypes := #[22] }, none⟩,
    ⟨some 9, .binOp .sub 3 (.tmp 8) (.const (.int .i64 1)) 3, none⟩,
    ⟨some 6, .assign (.tmp 9), none⟩]) (.block 0 (.loop (.seq (.seq (.reg [⟨some 10, .move (.tmp 6), none⟩,
    ⟨some 11, .binOp .geq 3 (.tmp 10) (.const (.int .i64 0)) 3, none⟩]) (.cond (.tmp 11) .skip (.exit 0))) (.seq (.block 1 (.draw [(0, [], ⟨some 14, .move (.tmp 5), none⟩),
    (1, [], ⟨some 15, .fieldAddr 24 (.tmp 2) 0, none⟩),
    (2, [], ⟨some 16, .load 3 (.tmp 15), none⟩),
    (3, [], ⟨some 17, .binOp .mul 3 (.tmp 14) (.tmp 16) 3, none⟩),
    (4, [], ⟨some 18, .move (.tmp 1), none⟩),
    (5, [], ⟨some 19, .move (.tmp 6), none⟩),
    (6, [], ⟨some 20, .indexAddr 22 (.tmp 18) (.tmp 19), none⟩),
    (7, [], ⟨some 21, .load 3 (.tmp 20), none⟩),
    (8, [], ⟨some 22, .binOp .add 3 (.tmp 17) (.tmp 21) 3, none⟩),
    (9, [], ⟨some 5, .assign (.tmp 22), none⟩)])) (.reg [⟨some 12, .move (.tmp 6), none⟩,
    ⟨some 13, .binOp .sub 3 (.tmp 12) (.const (.int .i64 1)) 3, none⟩,
    ⟨some 6, .assign (.tmp 13), none⟩])))))) (.seq (.reg [⟨some 23, .move (.tmp 5), none⟩,
    ⟨some 4, .assign (.tmp 23), none⟩]) .ret)))
theorem at111 {args : List AV} {H : AH} {Q : AV → AH → Prop} (hl : args.length ≤ 24) (h : swp Try.prog s111 (fin Try.prog [.tmp 4] Q) (env0 args) H) : AC Try.prog 111 args H Q :=
  AC.of (pl111) Try.func111 rfl (by kernel_rfl) mixed (by kernel_rfl) (by kernel_rfl) rfl hl h
/-! ### function 112: (*codewright/field.GF).Add -/
def pl112 : Nat → Plan
  | 6 => [(0, []), (1, []), (2, []), (3, []), (4, []), (5, []), (6, []), (7, []), (8, []), (9, []), (10, []), (11, []), (12, []), (13, []), (14, []), (15, []), (16, []), (17, []), (18, []), (19, []), (20, []), (21, []), (22, []), (23, []), (24, []), (25, [])]
  | _ => []
def s112 : SC :=
  .seq (.reg [⟨some 6, .assign (.const (.int .i64 0)), none⟩]) (.seq (.reg [⟨some 9, .move (.tmp 0), none⟩,
    ⟨some 10, .move (.tmp 1), none⟩,
    ⟨some 11, .call { callee := .value (.func 78), args := #[.tmp 9, .tmp 10], argTypes := #[75, 3] }, none⟩,
    ⟨some 12, .move (.tmp 0), none⟩,
    ⟨some 13, .move (.tmp 2), none⟩,
    ⟨some 14, .call { callee := .value (.func 78), args := #[.tmp 12, .tmp 13], argTypes := #[75, 3] }, none⟩,
    ⟨some 1, .assign (.tmp 11), none⟩,
    ⟨some 2, .assign (.tmp 14), none⟩]) (.seq (.seq (.reg [⟨some 15, .move (.tmp 0), none⟩,
    ⟨some 16, .nilCheck (.tmp 15), none⟩,
    ⟨some 17, .fieldAddr 101 (.tmp 16) 0, none⟩,
    ⟨some 18, .fieldAddr 24 (.tmp 17) 0, none⟩,
    ⟨some 19, .load 3 (.tmp 18), none⟩,
    ⟨some 20, .binOp .eql 3 (.tmp 19) (.const (.int .i64 2)) 3, none⟩]) (.cond (.tmp 20) (.seq (.reg [⟨some 21, .move (.tmp 1), none⟩,
    ⟨some 22, .move (.tmp 2), none⟩,
    ⟨some 23, .binOp .xor 3 (.tmp 21) (.tmp 22) 3, none⟩,
    ⟨some 6, .assign (.tmp 23), none⟩]) .ret) .skip)) (.seq (.reg [⟨some 7, .assign (.const (.int .i64 0)), none⟩,
    ⟨some 8, .assign (.const (.int .i64 1)), none⟩]) (.seq (.block 0 (.loop (.seq (.seq (.reg [⟨some 24, .move (.tmp 1), none⟩,
    ⟨some 25, .binOp .gtr 3 (.tmp 24) (.const (.int .i64 0)) 3, none⟩,
    ⟨some 26, .move (.tmp 25), none⟩,
    ⟨some 27, .move (.tmp 2), some (26, false)⟩,
    ⟨some 28, .binOp .gtr 3 (.tmp 27) (.const (.int .i64 0)) 3, some (26, false)⟩,
    ⟨some 29, .pick (.tmp 26) (.const (.bool true)) (.tmp 28), none⟩]) (.cond (.tmp 29) .skip (.exit 0))) (.block 1 (.seq (.draw [(0, [], ⟨some 30, .move (.tmp 7), none⟩),
    (1, [], ⟨some 31, .move (.tmp 1), none⟩),
    (2, [], ⟨some 32, .move (.tmp 0), none⟩),
    (3, [], ⟨some 33, .nilCheck (.tmp 32), none⟩),
    (4, [], ⟨some 34, .fieldAddr 101 (.tmp 33) 0, none⟩),
    (5, [], ⟨some 35, .fieldAddr 24 (.tmp 34) 0, none⟩),
    (6, [], ⟨some 36, .load 3 (.tmp 35), none⟩),
    (7, [], ⟨some 37, .binOp .rem 3 (.tmp 31) (.tmp 36) 3, none⟩),
    (8, [], ⟨some 38, .move (.tmp 2), none⟩),
    (9, [], ⟨some 39, .move (.tmp 0), none⟩),
    (10, [], ⟨some 40, .nilCheck (.tmp 39), none⟩),
    (11, [], ⟨some 41, .fieldAddr 101 (.tmp 40) 0, none⟩),
    (12, [], ⟨some 42, .fieldAddr 24 (.tmp 41) 0, none⟩),
    (13, [], ⟨some 43, .load 3 (.tmp 42), none⟩),
    (14, [], ⟨some 44, .binOp .rem 3 (.tmp 38) (.tmp 43) 3, none⟩),
    (15, [], ⟨some 45, .binOp .add 3 (.tmp 37) (.tmp 44) 3, none⟩),
    (16, [], ⟨some 46, .move (.tmp 0), none⟩),
    (17, [], ⟨some 47, .nilCheck (.tmp 46), none⟩),
    (18, [], ⟨some 48, .fieldAddr 101 (.tmp 47) 0, none⟩),
    (19, [], ⟨some 49, .fieldAddr 24 (.tmp 48) 0, none⟩),
    (20, [], ⟨some 50, .load 3 (.tmp 49), none⟩),
    (21, [], ⟨some 51, .binOp .rem 3 (.tmp 45) (.tmp 50) 3, none⟩),
    (22, [], ⟨some 52, .move (.tmp 8), none⟩),
    (23, [], ⟨some 53, .binOp .mul 3 (.tmp 51) (.tmp 52) 3, none⟩),
    (24, [], ⟨some 54, .binOp .add 3 (.tmp 30) (.tmp 53) 3, none⟩),
    (25, [], ⟨some 7, .assign (.tmp 54), none⟩)]) (.seq (.reg [⟨some 55, .move (.tmp 8), none⟩,
    ⟨some 56, .move (.tmp 0), none⟩,
    ⟨some 57, .nilCheck (.tmp 56), none⟩,
    ⟨some 58, .fieldAddr 101 (.tmp 57) 0, none⟩,
    ⟨some 59, .fieldAddr 24 (.tmp 58) 0, none⟩,
    ⟨some 60, .load 3 (.tmp 59), none⟩,
    ⟨some 61, .binOp .mul 3 (.tmp 55) (.tmp 60) 3, none⟩,
    ⟨some 8, .assign (.tmp 61), none⟩]) (.seq (.reg [⟨some 62, .move (.tmp 1), none⟩,
    ⟨some 63, .move (.tmp 0), none⟩,
    ⟨some 64, .nilCheck (.tmp 63), none⟩,
    ⟨some 65, .fieldAddr 101 (.tmp 64) 0, none⟩,
    ⟨some 66, .fieldAddr 24 (.tmp 65) 0, none⟩,
    ⟨some 67, .load 3 (.tmp 66), none⟩,
    ⟨some 68, .binOp .quo 3 (.tmp 62) (.tmp 67) 3, none⟩,
    ⟨some 1, .assign (.tmp 68), none⟩]) (.reg [⟨some 69, .move (.tmp 2), none⟩,
    ⟨some 70, .move (.tmp 0), none⟩,
    ⟨some 71, .nilCheck (.tmp 70), none⟩,
    ⟨some 72, .fieldAddr 101 (.tmp 71) 0, none⟩,
    ⟨some 73, .fieldAddr 24 (.tmp 72) 0, none⟩,
    ⟨some 74, .load 3 (.tmp 73), none⟩,
    ⟨some 75, .binOp .quo 3 (.tmp 69) (.tmp 74) 3, none⟩,
    ⟨some 2, .assign (.tmp 75), none⟩])))))))) (.seq (.reg [⟨some 76, .move (.tmp 7), none⟩,
    ⟨some 6, .assign (.tmp 76), none⟩]) .ret)))))
theorem at112 {args : List AV} {H : AH} {Q : AV → AH → Prop} (hl : args.length ≤ 77) (h : swp Try.prog s112 (fin Try.prog [.tmp 6] Q) (env0 args) H) : AC Try.prog 112 args H Q :=
  AC.of (pl112) Try.func112 rfl (by kernel_rfl) mixed (by kernel_rfl) (by kernel_rfl) rfl hl h
/-! ### function 113: (*codewright/field.GF).Sub -/
def s113 : SC :=
  .seq (.reg [⟨some 6, .assign (.const (.int .i64 0)), none⟩]) (.seq (.reg [⟨some 7, .move (.tmp 0), none⟩,
    ⟨some 8, .move (.tmp 1), none⟩,
    ⟨some 9, .move (.tmp 0), none⟩,
    ⟨some 10, .move (.tmp 2), none⟩,
    ⟨some 11, .call { callee := .value (.func 59), args := #[.tmp 9, .tmp 10], argTypes := #[75, 3] }, none⟩,
    ⟨some 12, .call { callee := .value (.func 112), args := #[.tmp 7, .tmp 8, .tmp 11], argTypes := #[75, 3, 3] }, none⟩,
    ⟨some 6, .assign (.tmp 12), none⟩]) .ret)
theorem at113 {args : List AV} {H : AH} {Q : AV → AH → Prop} (hl : args.length ≤ 13) (h : swp Try.prog s113 (fin Try.prog [.tmp 6] Q) (env0 args) H) : AC Try.prog 113 args H Q :=
  AC.of (fun _ => []) Try.func113 rfl (by kernel_rfl) mixed (by kernel_rfl) (by kernel_rfl) rfl hl h
/-! ### function 114: slices.IndexFunc[[]int,int] -/
def s114 : SC :=
  .seq (.reg [⟨some 4, .assign (.const (.int .i64 0)), none⟩]) (.seq (.seq (.reg [⟨some 6, .move (.tmp 0), none⟩,
    ⟨some 7, .call { callee := .builtin .len, args := #[.tmp 6], argTypes := #[22] }, none⟩,
    ⟨some 8, .move (.const (.int .i64 0)), none⟩]) (.block 0 (.loop (.seq (.reg [⟨some 9, .binOp .lss 3 (.tmp 8) (.tmp 7) 3, none⟩]) (.seq (.cond (.tmp 9) .skip (.exit 0)) (.seq (.block 1 (.seq (.reg [⟨some 10, .move (.tmp 8), none⟩,
    ⟨some 5, .assign (.tmp 10), none⟩]) (.seq (.reg [⟨some 11, .move (.tmp 1), none⟩,
    ⟨some 12, .move (.tmp 0), none⟩,
    ⟨some 13, .move (.tmp 5), none⟩,
    ⟨some 14, .indexAddr 22 (.tmp 12) (.tmp 13), none⟩,
    ⟨some 15, .load 3 (.tmp 14), none⟩,
    ⟨some 16, .call { callee := .value (.tmp 11), args := #[.tmp 15], argTypes := #[3] }, none⟩]) (.cond (.tmp 16) (.seq (.reg [⟨some 17, .move (.tmp 5), none⟩,
    ⟨some 4, .assign (.tmp 17), none⟩]) .ret) .skip)))) (.reg [⟨some 18, .binOp .add 3 (.tmp 8) (.const (.int .i64 1)) 3, none⟩,
    ⟨some 8, .move (.tmp 18), none⟩]))))))) (.seq (.reg [⟨some 4, .assign (.const (.int .i64 (-1))), none⟩]) .ret))
theorem at114 {args : List AV} {H : AH} {Q : AV → AH → Prop} (hl : args.length ≤ 19) (h : swp Try.prog s114 (fin Try.prog [.tmp 4] Q) (env0 args) H) : AC Try.prog 114 args H Q :=
  AC.of (fun _ => []) Try.func114 rfl (by kernel_rfl) mixed (by kernel_rfl) (by kernel_rfl) rfl hl h
/-! ### function 115: (*codewright/infoset.basis).add$1 -/
def s115 : SC :=
  .seq (.reg [⟨some 2, .assign (.const (.bool false)), none⟩]) (.seq (.reg [⟨some 3, .move (.tmp 0), none⟩,
    ⟨some 4, .binOp .neq 3 (.tmp 3) (.const (.int .i64 0)) 3, none⟩,
    ⟨some 2, .assign (.tmp 4), none⟩]) .ret)
theorem at115 {args : List AV} {H : AH} {Q : AV → AH → Prop} (hl : args.length ≤ 5) (h : swp Try.prog s115 (fin Try.prog [.tmp 2] Q) (env0 args) H) : AC Try.prog 115 args H Q :=
  AC.of (fun _ => []) Try.func115 rfl (by kernel_rfl) mixed (by kernel_rfl) (by kernel_rfl) rfl hl h
/-! ### function 116: codewright/codewrightref04.In -/
def s116 : SC :=
  .seq (.reg [⟨some 2, .box 24 (.tmp 0), none⟩,
    ⟨some 4, .assign (.const (.int .i64 0)), none⟩]) (.seq (.seq (.reg [⟨some 5, .load 24 (.tmp 2), none⟩,
    ⟨some 6, .move (.tmp 1), none⟩,
    ⟨some 7, .call { callee := .value (.func 88), args := #[.tmp 5, .tmp 6], argTypes := #[24, 3] }, none⟩]) (.cond (.tmp 7) (.seq (.reg [⟨some 8, .move (.tmp 1), none⟩,
    ⟨some 4, .assign (.tmp 8), none⟩]) .ret) .skip)) (.seq (.reg [⟨some 4, .assign (.const (.int .i64 0)), none⟩]) .ret))
theorem at116 {args : List AV} {H : AH} {Q : AV → AH → Prop} (hl : args.length ≤ 9) (h : swp Try.prog s116 (fin Try.prog [.tmp 4] Q) (env0 args) H) : AC Try.prog 116 args H Q :=
  AC.of (fun _ => []) Try.func116 rfl (by kernel_rfl) mixed (by kernel_rfl) (by kernel_rfl) rfl hl h
end Go.Proofs.Yteijojnahpeglaa.AM
