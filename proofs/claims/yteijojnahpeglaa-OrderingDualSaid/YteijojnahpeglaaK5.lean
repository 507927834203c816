/- Helpers. Stripped texts of functions, printed by gen.py out of the loaded program; Lean checks each against it. · Heaps that grow; slices of ints; rules for proofs that use the runner. · Slices of the call's own, which grow by append. · The reference's field, first part: contracts. · The reference's field, second part: primes and divisors. · The reference's field, third part: Check. · The reference's field, fourth part: digits and sums. · The reference's field, fifth part: sums and negatives. · The reference's field, sixth part: products. · The reference's field, seventh part: inverses. · The reference's matrices, first part: rows, sums, comparisons. · The reference's matrices, second part: scale, AddTo, Pick, Copy. · The reference's matrices, third part: lists of rows in a block of the call's own; Pick, Copy. · The reference's matrices, fourth part: Eliminate and Canon. · The reference's matrices, fifth part: Canon, Check. · The reference's spaces and codes: Check; subsets. · The reference's orderings, first part: Others, rank, Of, Dimension. · The reference's orderings, second part: Dimension. · The program's field, first part: order, isPrime, digitsOf, valueOf. -/
import Derived.Test.YteijojnahpeglaaK4
import Derived.Test.YteijojnahpeglaaProg
import Derived.KernelRfl
import Derived.Test.YteijojnahpeglaaK3
import Derived.Test.YteijojnahpeglaaK1
/-! Stripped texts of functions, printed by gen.py out of the loaded program; Lean checks each against it. -/
namespace Go.Proofs.Yteijojnahpeglaa.AM
open Go Go.RowKit
set_option linter.unusedVariables false
set_option linter.defProp false
/-! ### function 82: codewright/field.multiply -/
def pl82 : Nat → Plan
  | 1 => [(0, []), (1, []), (2, []), (3, []), (4, []), (6, []), (7, []), (8, []), (9, []), (10, []), (5, [8, 10]), (11, []), (12, []), (13, [])]
  | 7 => [(0, []), (1, []), (2, []), (3, []), (4, []), (5, []), (6, []), (7, [])]
  | 15 => [(0, []), (1, []), (2, []), (3, []), (4, []), (5, []), (6, []), (7, []), (8, []), (9, []), (10, []), (11, []), (12, []), (13, []), (14, []), (15, []), (16, []), (17, []), (18, []), (19, []), (20, []), (21, []), (22, []), (23, []), (24, []), (25, []), (26, []), (27, [])]
  | _ => []
def s82 : SC :=
  .seq (.reg [⟨some 3, .box 24 (.tmp 0), none⟩,
    ⟨some 6, .assign (.const (.int .i64 0)), none⟩]) (.seq (.draw [(0, [], ⟨some 14, .move (.tmp 1), none⟩),
    (1, [], ⟨some 15, .fieldAddr 24 (.tmp 3) 0, none⟩),
    (2, [], ⟨some 16, .load 3 (.tmp 15), none⟩),
    (3, [], ⟨some 17, .fieldAddr 24 (.tmp 3) 1, none⟩),
    (4, [], ⟨some 18, .load 3 (.tmp 17), none⟩),
    (6, [], ⟨some 20, .move (.tmp 2), none⟩),
    (7, [], ⟨some 21, .fieldAddr 24 (.tmp 3) 0, none⟩),
    (8, [], ⟨some 22, .load 3 (.tmp 21), none⟩),
    (9, [], ⟨some 23, .fieldAddr 24 (.tmp 3) 1, none⟩),
    (10, [], ⟨some 24, .load 3 (.tmp 23), none⟩),
    (5, [8, 10], ⟨some 19, .call { callee := .value (.func 104), args := #[.tmp 14, .tmp 16, .tmp 18], argTypes := #[3, 3, 3] }, none⟩),
    (11, [], ⟨some 25, .call { callee := .value (.func 104), args := #[.tmp 20, .tmp 22, .tmp 24], argTypes := #[3, 3, 3] }, none⟩),
    (12, [], ⟨some 7, .assign (.tmp 19), none⟩),
    (13, [], ⟨some 8, .assign (.tmp 25), none⟩)]) (.seq (.reg [⟨some 26, .fieldAddr 24 (.tmp 3) 1, none⟩,
    ⟨some 27, .load 3 (.tmp 26), none⟩,
    ⟨some 28, .makeSlice 22 (.tmp 27) (.tmp 27), none⟩,
    ⟨some 9, .assign (.tmp 28), none⟩]) (.seq (.seq (.reg [⟨some 29, .fieldAddr 24 (.tmp 3) 1, none⟩,
    ⟨some 30, .load 3 (.tmp 29), none⟩,
    ⟨some 31, .binOp .sub 3 (.tmp 30) (.const (.int .i64 1)) 3, none⟩,
    ⟨some 10, .assign (.tmp 31), none⟩]) (.block 0 (.loop (.seq (.seq (.reg [⟨some 32, .move (.tmp 10), none⟩,
    ⟨some 33, .binOp .geq 3 (.tmp 32) (.const (.int .i64 0)) 3, none⟩]) (.cond (.tmp 33) .skip (.exit 0))) (.seq (.block 1 (.seq (.reg [⟨some 36, .move (.tmp 9), none⟩,
    ⟨some 37, .fieldAddr 24 (.tmp 3) 1, none⟩,
    ⟨some 38, .load 3 (.tmp 37), none⟩,
    ⟨some 39, .binOp .sub 3 (.tmp 38) (.const (.int .i64 1)) 3, none⟩,
    ⟨some 40, .indexAddr 22 (.tmp 36) (.tmp 39), none⟩,
    ⟨some 41, .load 3 (.tmp 40), none⟩,
    ⟨some 11, .assign (.tmp 41), none⟩]) (.seq (.draw [(0, [], ⟨some 42, .move (.tmp 9), none⟩),
    (1, [], ⟨some 43, .slice 22 (.tmp 42) (some (.const (.int .i64 1))) none none, none⟩),
    (2, [], ⟨some 44, .move (.tmp 9), none⟩),
    (3, [], ⟨some 45, .fieldAddr 24 (.tmp 3) 1, none⟩),
    (4, [], ⟨some 46, .load 3 (.tmp 45), none⟩),
    (5, [], ⟨some 47, .binOp .sub 3 (.tmp 46) (.const (.int .i64 1)) 3, none⟩),
    (6, [], ⟨some 48, .slice 22 (.tmp 44) none (some (.tmp 47)) none, none⟩),
    (7, [], ⟨some 49, .call { callee := .builtin .copy, args := #[.tmp 43, .tmp 48], argTypes := #[22, 22] }, none⟩)]) (.seq (.reg [⟨some 50, .move (.tmp 9), none⟩,
    ⟨some 51, .indexAddr 22 (.tmp 50) (.const (.int .i64 0)), none⟩,
    ⟨none, .store 3 (.tmp 51) (.const (.int .i64 0)), none⟩]) (.seq (.reg [⟨some 52, .move (.tmp 9), none⟩,
    ⟨some 53, .call { callee := .builtin .len, args := #[.tmp 52], argTypes := #[22] }, none⟩,
    ⟨some 54, .move (.const (.int .i64 0)), none⟩]) (.block 2 (.loop (.seq (.reg [⟨some 55, .binOp .lss 3 (.tmp 54) (.tmp 53) 3, none⟩]) (.seq (.cond (.tmp 55) .skip (.exit 2)) (.seq (.block 3 (.seq (.reg [⟨some 56, .move (.tmp 54), none⟩,
    ⟨some 12, .assign (.tmp 56), none⟩]) (.seq (.reg [⟨some 13, .assign (.const (.int .i64 0)), none⟩]) (.seq (.seq (.reg [⟨some 57, .fieldAddr 24 (.tmp 3) 1, none⟩,
    ⟨some 58, .load 3 (.tmp 57), none⟩,
    ⟨some 59, .binOp .gtr 3 (.tmp 58) (.const (.int .i64 1)) 3, none⟩]) (.cond (.tmp 59) (.reg [⟨some 60, .fieldAddr 24 (.tmp 3) 2, none⟩,
    ⟨some 61, .load 22 (.tmp 60), none⟩,
    ⟨some 62, .move (.tmp 12), none⟩,
    ⟨some 63, .indexAddr 22 (.tmp 61) (.tmp 62), none⟩,
    ⟨some 64, .load 3 (.tmp 63), none⟩,
    ⟨some 13, .assign (.tmp 64), none⟩]) .skip)) (.draw [(0, [], ⟨some 65, .move (.tmp 9), none⟩),
    (1, [], ⟨some 66, .move (.tmp 12), none⟩),
    (2, [], ⟨some 67, .move (.tmp 9), none⟩),
    (3, [], ⟨some 68, .move (.tmp 12), none⟩),
    (4, [], ⟨some 69, .indexAddr 22 (.tmp 67) (.tmp 68), none⟩),
    (5, [], ⟨some 70, .load 3 (.tmp 69), none⟩),
    (6, [], ⟨some 71, .fieldAddr 24 (.tmp 3) 0, none⟩),
    (7, [], ⟨some 72, .load 3 (.tmp 71), none⟩),
    (8, [], ⟨some 73, .move (.tmp 11), none⟩),
    (9, [], ⟨some 74, .binOp .sub 3 (.tmp 72) (.tmp 73) 3, none⟩),
    (10, [], ⟨some 75, .move (.tmp 13), none⟩),
    (11, [], ⟨some 76, .binOp .mul 3 (.tmp 74) (.tmp 75) 3, none⟩),
    (12, [], ⟨some 77, .binOp .add 3 (.tmp 70) (.tmp 76) 3, none⟩),
    (13, [], ⟨some 78, .move (.tmp 8), none⟩),
    (14, [], ⟨some 79, .move (.tmp 10), none⟩),
    (15, [], ⟨some 80, .indexAddr 22 (.tmp 78) (.tmp 79), none⟩),
    (16, [], ⟨some 81, .load 3 (.tmp 80), none⟩),
    (17, [], ⟨some 82, .move (.tmp 7), none⟩),
    (18, [], ⟨some 83, .move (.tmp 12), none⟩),
    (19, [], ⟨some 84, .indexAddr 22 (.tmp 82) (.tmp 83), none⟩),
    (20, [], ⟨some 85, .load 3 (.tmp 84), none⟩),
    (21, [], ⟨some 86, .binOp .mul 3 (.tmp 81) (.tmp 85) 3, none⟩),
    (22, [], ⟨some 87, .binOp .add 3 (.tmp 77) (.tmp 86) 3, none⟩),
    (23, [], ⟨some 88, .fieldAddr 24 (.tmp 3) 0, none⟩),
    (24, [], ⟨some 89, .load 3 (.tmp 88), none⟩),
    (25, [], ⟨some 90, .binOp .rem 3 (.tmp 87) (.tmp 89) 3, none⟩),
    (26, [], ⟨some 91, .indexAddr 22 (.tmp 65) (.tmp 66), none⟩),
    (27, [], ⟨none, .store 3 (.tmp 91) (.tmp 90), none⟩)]))))) (.reg [⟨some 92, .binOp .add 3 (.tmp 54) (.const (.int .i64 1)) 3, none⟩,
    ⟨some 54, .move (.tmp 92), none⟩]))))))))))) (.reg [⟨some 34, .move (.tmp 10), none⟩,
    ⟨some 35, .binOp .sub 3 (.tmp 34) (.const (.int .i64 1)) 3, none⟩,
    ⟨some 10, .assign (.tmp 35), none⟩])))))) (.seq (.reg [⟨some 93, .move (.tmp 9), none⟩,
    ⟨some 94, .fieldAddr 24 (.tmp 3) 0, none⟩,
    ⟨some 95, .load 3 (.tmp 94), none⟩,
    ⟨some 96, .call { callee := .value (.func 105), args := #[.tmp 93, .tmp 95], argTypes := #[22, 3] }, none⟩,
    ⟨some 6, .assign (.tmp 96), none⟩]) .ret))))
theorem at82 {args : List AV} {H : AH} {Q : AV → AH → Prop} (hl : args.length ≤ 97) (h : swp Try.prog s82 (fin Try.prog [.tmp 6] Q) (env0 args) H) : AC Try.prog 82 args H Q :=
  AC.of (pl82) Try.func82 rfl (by kernel_rfl) mixed (by kernel_rfl) (by kernel_rfl) rfl hl h
/-! ### function 83: codewright/matrix.Canonical -/
def s83 : SC :=
  .seq (.reg [⟨some 2, .box 24 (.tmp 0), none⟩,
    ⟨some 3, .box 59 (.tmp 1), none⟩,
    ⟨some 4, .alloc 59, none⟩,
    ⟨some 5, .assign (.const (.slice none 0 0)), none⟩,
    ⟨some 6, .assign (.const (.int .i64 0)), none⟩]) (.seq (.reg [⟨some 12, .load 24 (.tmp 2), none⟩,
    ⟨some 13, .load 59 (.tmp 3), none⟩,
    ⟨some 14, .buildSlice 93 1 #[(0, .tmp 13)], none⟩,
    ⟨some 15, .call { callee := .value (.func 56), args := #[.tmp 12, .tmp 14], argTypes := #[24, 93] }, none⟩,
    ⟨some 11, .move (.tmp 15), none⟩,
    ⟨some 16, .extract (.tmp 11) 0, none⟩,
    ⟨some 17, .extract (.tmp 11) 1, none⟩,
    ⟨some 7, .assign (.tmp 16), none⟩,
    ⟨some 8, .assign (.tmp 17), none⟩]) (.seq (.seq (.reg [⟨some 18, .move (.tmp 8), none⟩,
    ⟨some 19, .binOp .neq 28 (.tmp 18) (.const (.int .i64 0)) 28, none⟩]) (.cond (.tmp 19) (.seq (.reg [⟨some 20, .build 59 #[], none⟩,
    ⟨some 21, .move (.tmp 8), none⟩,
    ⟨none, .store 59 (.tmp 4) (.tmp 20), none⟩,
    ⟨some 5, .assign (.const (.slice none 0 0)), none⟩,
    ⟨some 6, .assign (.tmp 21), none⟩]) .ret) .skip)) (.seq (.reg [⟨some 23, .move (.tmp 7), none⟩,
    ⟨some 24, .fieldAddr 59 (.tmp 3) 1, none⟩,
    ⟨some 25, .load 25 (.tmp 24), none⟩,
    ⟨some 26, .fieldAddr 59 (.tmp 3) 0, none⟩,
    ⟨some 27, .load 3 (.tmp 26), none⟩,
    ⟨some 28, .call { callee := .value (.func 57), args := #[.tmp 23, .tmp 25, .tmp 27], argTypes := #[75, 25, 3] }, none⟩,
    ⟨some 22, .move (.tmp 28), none⟩,
    ⟨some 29, .extract (.tmp 22) 0, none⟩,
    ⟨some 30, .extract (.tmp 22) 1, none⟩,
    ⟨some 9, .assign (.tmp 29), none⟩,
    ⟨some 10, .assign (.tmp 30), none⟩]) (.seq (.reg [⟨some 31, .fieldAddr 59 (.tmp 3) 0, none⟩,
    ⟨some 32, .load 3 (.tmp 31), none⟩,
    ⟨some 33, .move (.tmp 9), none⟩,
    ⟨some 34, .build 59 #[(0, .tmp 32), (1, .tmp 33)], none⟩,
    ⟨some 35, .move (.tmp 10), none⟩,
    ⟨none, .store 59 (.tmp 4) (.tmp 34), none⟩,
    ⟨some 5, .assign (.tmp 35), none⟩,
    ⟨some 6, .assign (.const (.int .i64 0)), none⟩]) .ret))))
theorem at83 {args : List AV} {H : AH} {Q : AV → AH → Prop} (hl : args.length ≤ 36) (h : swp Try.prog s83 (fin Try.prog [.cell 4 59, .tmp 5, .tmp 6] Q) (env0 args) H) : AC Try.prog 83 args H Q :=
  AC.of (fun _ => []) Try.func83 rfl (by kernel_rfl) mixed (by kernel_rfl) (by kernel_rfl) rfl hl h
/-! ### function 84: slices.EqualFunc[[][]int,[][]int,[]int,[]int] -/
def s84 : SC :=
  .seq (.reg [⟨some 6, .assign (.const (.bool false)), none⟩]) (.seq (.seq (.reg [⟨some 10, .move (.tmp 0), none⟩,
    ⟨some 11, .call { callee := .builtin .len, args := #[.tmp 10], argTypes := #[25] }, none⟩,
    ⟨some 12, .move (.tmp 1), none⟩,
    ⟨some 13, .call { callee := .builtin .len, args := #[.tmp 12], argTypes := #[25] }, none⟩,
    ⟨some 14, .binOp .neq 3 (.tmp 11) (.tmp 13) 3, none⟩]) (.cond (.tmp 14) (.seq (.reg [⟨some 6, .assign (.const (.bool false)), none⟩]) .ret) .skip)) (.seq (.seq (.reg [⟨some 15, .move (.tmp 0), none⟩,
    ⟨some 16, .call { callee := .builtin .len, args := #[.tmp 15], argTypes := #[25] }, none⟩,
    ⟨some 17, .move (.const (.int .i64 0)), none⟩]) (.block 0 (.loop (.seq (.reg [⟨some 18, .binOp .lss 3 (.tmp 17) (.tmp 16) 3, none⟩]) (.seq (.cond (.tmp 18) .skip (.exit 0)) (.seq (.block 1 (.seq (.reg [⟨some 19, .move (.tmp 17), none⟩,
    ⟨some 20, .indexAddr 25 (.tmp 15) (.tmp 17), none⟩,
    ⟨some 21, .load 22 (.tmp 20), none⟩,
    ⟨some 7, .assign (.tmp 19), none⟩,
    ⟨some 8, .assign (.tmp 21), none⟩]) (.seq (.reg [⟨some 22, .move (.tmp 1), none⟩,
    ⟨some 23, .move (.tmp 7), none⟩,
    ⟨some 24, .indexAddr 25 (.tmp 22) (.tmp 23), none⟩,
    ⟨some 25, .load 22 (.tmp 24), none⟩,
    ⟨some 9, .assign (.tmp 25), none⟩]) (.seq (.reg [⟨some 26, .move (.tmp 2), none⟩,
    ⟨some 27, .move (.tmp 8), none⟩,
    ⟨some 28, .move (.tmp 9), none⟩,
    ⟨some 29, .call { callee := .value (.tmp 26), args := #[.tmp 27, .tmp 28], argTypes := #[22, 22] }, none⟩,
    ⟨some 30, .unOp .not 4 (.tmp 29), none⟩]) (.cond (.tmp 30) (.seq (.reg [⟨some 6, .assign (.const (.bool false)), none⟩]) .ret) .skip))))) (.reg [⟨some 31, .binOp .add 3 (.tmp 17) (.const (.int .i64 1)) 3, none⟩,
    ⟨some 17, .move (.tmp 31), none⟩]))))))) (.seq (.reg [⟨some 6, .assign (.const (.bool true)), none⟩]) .ret)))
theorem at84 {args : List AV} {H : AH} {Q : AV → AH → Prop} (hl : args.length ≤ 32) (h : swp Try.prog s84 (fin Try.prog [.tmp 6] Q) (env0 args) H) : AC Try.prog 84 args H Q :=
  AC.of (fun _ => []) Try.func84 rfl (by kernel_rfl) mixed (by kernel_rfl) (by kernel_rfl) rfl hl h
/-! ### function 85: codewright/infoset.open -/
def s85 : SC :=
  .seq (.reg [⟨some 1, .box 27 (.tmp 0), none⟩,
    ⟨some 2, .assign (.const (.pointer none)), none⟩,
    ⟨some 3, .assign (.const (.int .i64 0)), none⟩]) (.seq (.seq (.reg [⟨some 5, .load 27 (.tmp 1), none⟩,
    ⟨some 6, .call { callee := .value (.func 29), args := #[.tmp 5], argTypes := #[27] }, none⟩,
    ⟨some 4, .assign (.tmp 6), none⟩]) (.seq (.reg [⟨some 7, .move (.tmp 4), none⟩,
    ⟨some 8, .binOp .neq 28 (.tmp 7) (.const (.int .i64 0)) 28, none⟩]) (.cond (.tmp 8) (.seq (.reg [⟨some 9, .move (.tmp 4), none⟩,
    ⟨some 2, .assign (.const (.pointer none)), none⟩,
    ⟨some 3, .assign (.tmp 9), none⟩]) .ret) .skip))) (.seq (.reg [⟨some 10, .fieldAddr 27 (.tmp 1) 0, none⟩,
    ⟨some 11, .load 24 (.tmp 10), none⟩,
    ⟨some 12, .call { callee := .value (.func 73), args := #[.tmp 11], argTypes := #[24] }, none⟩,
    ⟨some 13, .extract (.tmp 12) 0, none⟩,
    ⟨some 14, .extract (.tmp 12) 1, none⟩,
    ⟨some 2, .assign (.tmp 13), none⟩,
    ⟨some 3, .assign (.tmp 14), none⟩]) .ret))
theorem at85 {args : List AV} {H : AH} {Q : AV → AH → Prop} (hl : args.length ≤ 15) (h : swp Try.prog s85 (fin Try.prog [.tmp 2, .tmp 3] Q) (env0 args) H) : AC Try.prog 85 args H Q :=
  AC.of (fun _ => []) Try.func85 rfl (by kernel_rfl) mixed (by kernel_rfl) (by kernel_rfl) rfl hl h
/-! ### function 86: codewright/infoset.sets -/
def s86 : SC :=
  .seq (.reg [⟨some 2, .box 27 (.tmp 0), none⟩,
    ⟨some 4, .assign (.const (.int .i64 0)), none⟩]) (.seq (.seq (.reg [⟨some 9, .move (.tmp 1), none⟩,
    ⟨some 10, .call { callee := .builtin .len, args := #[.tmp 9], argTypes := #[25] }, none⟩,
    ⟨some 11, .move (.const (.int .i64 0)), none⟩]) (.block 0 (.loop (.seq (.reg [⟨some 12, .binOp .lss 3 (.tmp 11) (.tmp 10) 3, none⟩]) (.seq (.cond (.tmp 12) .skip (.exit 0)) (.seq (.block 1 (.seq (.reg [⟨some 13, .indexAddr 25 (.tmp 9) (.tmp 11), none⟩,
    ⟨some 14, .load 22 (.tmp 13), none⟩,
    ⟨some 6, .assign (.tmp 14), none⟩]) (.seq (.reg [⟨some 15, .move (.tmp 6), none⟩,
    ⟨some 16, .call { callee := .builtin .len, args := #[.tmp 15], argTypes := #[22] }, none⟩,
    ⟨some 17, .move (.const (.int .i64 0)), none⟩]) (.block 2 (.loop (.seq (.reg [⟨some 18, .binOp .lss 3 (.tmp 17) (.tmp 16) 3, none⟩]) (.seq (.cond (.tmp 18) .skip (.exit 2)) (.seq (.block 3 (.seq (.reg [⟨some 19, .move (.tmp 17), none⟩,
    ⟨some 20, .indexAddr 22 (.tmp 15) (.tmp 17), none⟩,
    ⟨some 21, .load 3 (.tmp 20), none⟩,
    ⟨some 7, .assign (.tmp 19), none⟩,
    ⟨some 8, .assign (.tmp 21), none⟩]) (.seq (.reg [⟨some 22, .move (.tmp 8), none⟩,
    ⟨some 23, .binOp .lss 3 (.tmp 22) (.const (.int .i64 0)) 3, none⟩,
    ⟨some 24, .move (.tmp 23), none⟩,
    ⟨some 25, .move (.tmp 8), some (24, false)⟩,
    ⟨some 26, .fieldAddr 27 (.tmp 2) 1, some (24, false)⟩,
    ⟨some 27, .load 3 (.tmp 26), some (24, false)⟩,
    ⟨some 28, .binOp .geq 3 (.tmp 25) (.tmp 27) 3, some (24, false)⟩,
    ⟨some 29, .pick (.tmp 24) (.const (.bool true)) (.tmp 28), none⟩,
    ⟨some 30, .move (.tmp 29), none⟩,
    ⟨some 31, .move (.tmp 7), some (30, false)⟩,
    ⟨some 32, .binOp .gtr 3 (.tmp 31) (.const (.int .i64 0)) 3, some (30, false)⟩,
    ⟨some 33, .move (.tmp 32), some (30, false)⟩,
    ⟨some 34, .move (.tmp 8), some (33, true)⟩,
    ⟨some 35, .move (.tmp 6), some (33, true)⟩,
    ⟨some 36, .move (.tmp 7), some (33, true)⟩,
    ⟨some 37, .binOp .sub 3 (.tmp 36) (.const (.int .i64 1)) 3, some (33, true)⟩,
    ⟨some 38, .indexAddr 22 (.tmp 35) (.tmp 37), some (33, true)⟩,
    ⟨some 39, .load 3 (.tmp 38), some (33, true)⟩,
    ⟨some 40, .binOp .leq 3 (.tmp 34) (.tmp 39) 3, some (33, true)⟩,
    ⟨some 41, .pick (.tmp 33) (.tmp 40) (.const (.bool false)), some (30, false)⟩,
    ⟨some 42, .pick (.tmp 30) (.const (.bool true)) (.tmp 41), none⟩]) (.cond (.tmp 42) (.seq (.reg [⟨some 4, .assign (.const (.int .i64 6)), none⟩]) .ret) .skip)))) (.reg [⟨some 43, .binOp .add 3 (.tmp 17) (.const (.int .i64 1)) 3, none⟩,
    ⟨some 17, .move (.tmp 43), none⟩]))))))))) (.reg [⟨some 44, .binOp .add 3 (.tmp 11) (.const (.int .i64 1)) 3, none⟩,
    ⟨some 11, .move (.tmp 44), none⟩]))))))) (.seq (.reg [⟨some 4, .assign (.const (.int .i64 0)), none⟩]) .ret))
theorem at86 {args : List AV} {H : AH} {Q : AV → AH → Prop} (hl : args.length ≤ 45) (h : swp Try.prog s86 (fin Try.prog [.tmp 4] Q) (env0 args) H) : AC Try.prog 86 args H Q :=
  AC.of (fun _ => []) Try.func86 rfl (by kernel_rfl) mixed (by kernel_rfl) (by kernel_rfl) rfl hl h
/-! ### function 87: codewright/infoset.greedy -/
def s87 : SC :=
  .seq (.reg [⟨some 4, .box 27 (.tmp 1), none⟩,
    ⟨some 6, .assign (.const (.slice none 0 0)), none⟩]) (.seq (.reg [⟨some 11, .move (.tmp 0), none⟩,
    ⟨some 12, .build 122 #[(0, .tmp 11)], none⟩,
    ⟨some 13, .box 122 (.tmp 12), none⟩,
    ⟨some 7, .assign (.tmp 13), none⟩]) (.seq (.reg [⟨some 8, .assign (.const (.slice none 0 0)), none⟩]) (.seq (.seq (.reg [⟨some 14, .move (.tmp 2), none⟩,
    ⟨some 15, .call { callee := .builtin .len, args := #[.tmp 14], argTypes := #[22] }, none⟩,
    ⟨some 16, .move (.const (.int .i64 0)), none⟩]) (.block 0 (.loop (.seq (.reg [⟨some 17, .binOp .lss 3 (.tmp 16) (.tmp 15) 3, none⟩]) (.seq (.cond (.tmp 17) .skip (.exit 0)) (.seq (.block 1 (.seq (.reg [⟨some 18, .indexAddr 22 (.tmp 14) (.tmp 16), none⟩,
    ⟨some 19, .load 3 (.tmp 18), none⟩,
    ⟨some 10, .assign (.tmp 19), none⟩]) (.seq (.reg [⟨some 20, .move (.tmp 7), none⟩,
    ⟨some 21, .load 27 (.tmp 4), none⟩,
    ⟨some 22, .move (.tmp 10), none⟩,
    ⟨some 23, .call { callee := .value (.func 107), args := #[.tmp 21, .tmp 22], argTypes := #[27, 3] }, none⟩,
    ⟨some 24, .call { callee := .value (.func 106), args := #[.tmp 20, .tmp 23], argTypes := #[120, 22] }, none⟩]) (.cond (.tmp 24) (.reg [⟨some 25, .move (.tmp 8), none⟩,
    ⟨some 26, .move (.tmp 10), none⟩,
    ⟨some 27, .buildSlice 22 1 #[(0, .tmp 26)], none⟩,
    ⟨some 28, .call { callee := .builtin .append, args := #[.tmp 25, .tmp 27], argTypes := #[22, 22] }, none⟩,
    ⟨some 8, .assign (.tmp 28), none⟩]) .skip)))) (.reg [⟨some 29, .binOp .add 3 (.tmp 16) (.const (.int .i64 1)) 3, none⟩,
    ⟨some 16, .move (.tmp 29), none⟩]))))))) (.seq (.reg [⟨some 30, .move (.tmp 8), none⟩,
    ⟨some 6, .assign (.tmp 30), none⟩]) .ret))))
theorem at87 {args : List AV} {H : AH} {Q : AV → AH → Prop} (hl : args.length ≤ 31) (h : swp Try.prog s87 (fin Try.prog [.tmp 6] Q) (env0 args) H) : AC Try.prog 87 args H Q :=
  AC.of (fun _ => []) Try.func87 rfl (by kernel_rfl) mixed (by kernel_rfl) (by kernel_rfl) rfl hl h
/-! ### function 88: codewright/codewrightref04.Is -/
def s88 : SC :=
  .seq (.reg [⟨some 2, .box 24 (.tmp 0), none⟩,
    ⟨some 4, .assign (.const (.bool false)), none⟩]) (.seq (.reg [⟨some 5, .move (.tmp 1), none⟩,
    ⟨some 6, .binOp .geq 3 (.tmp 5) (.const (.int .i64 0)) 3, none⟩,
    ⟨some 7, .move (.tmp 6), none⟩,
    ⟨some 8, .move (.tmp 1), some (7, true)⟩,
    ⟨some 9, .load 24 (.tmp 2), some (7, true)⟩,
    ⟨some 10, .call { callee := .value (.func 50), args := #[.tmp 9], argTypes := #[24] }, some (7, true)⟩,
    ⟨some 11, .binOp .lss 3 (.tmp 8) (.tmp 10) 3, some (7, true)⟩,
    ⟨some 12, .pick (.tmp 7) (.tmp 11) (.const (.bool false)), none⟩,
    ⟨some 4, .assign (.tmp 12), none⟩]) .ret)
theorem at88 {args : List AV} {H : AH} {Q : AV → AH → Prop} (hl : args.length ≤ 13) (h : swp Try.prog s88 (fin Try.prog [.tmp 4] Q) (env0 args) H) : AC Try.prog 88 args H Q :=
  AC.of (fun _ => []) Try.func88 rfl (by kernel_rfl) mixed (by kernel_rfl) (by kernel_rfl) rfl hl h
/-! ### function 89: codewright/codewrightref09.Copy -/
def s89 : SC :=
  .seq (.reg [⟨some 2, .assign (.const (.slice none 0 0)), none⟩]) (.seq (.reg [⟨some 3, .assign (.const (.slice none 0 0)), none⟩]) (.seq (.seq (.reg [⟨some 4, .assign (.const (.int .i64 0)), none⟩]) (.block 0 (.loop (.seq (.seq (.reg [⟨some 5, .move (.tmp 4), none⟩,
    ⟨some 6, .move (.tmp 0), none⟩,
    ⟨some 7, .call { callee := .builtin .len, args := #[.tmp 6], argTypes := #[25] }, none⟩,
    ⟨some 8, .binOp .lss 3 (.tmp 5) (.tmp 7) 3, none⟩]) (.cond (.tmp 8) .skip (.exit 0))) (.seq (.block 1 (.reg [⟨some 11, .move (.tmp 3), none⟩,
    ⟨some 12, .buildSlice 22 0 #[], none⟩,
    ⟨some 13, .move (.tmp 0), none⟩,
    ⟨some 14, .move (.tmp 4), none⟩,
    ⟨some 15, .indexAddr 25 (.tmp 13) (.tmp 14), none⟩,
    ⟨some 16, .load 22 (.tmp 15), none⟩,
    ⟨some 17, .call { callee := .builtin .append, args := #[.tmp 12, .tmp 16], argTypes := #[22, 22] }, none⟩,
    ⟨some 18, .buildSlice 25 1 #[(0, .tmp 17)], none⟩,
    ⟨some 19, .call { callee := .builtin .append, args := #[.tmp 11, .tmp 18], argTypes := #[25, 25] }, none⟩,
    ⟨some 3, .assign (.tmp 19), none⟩])) (.reg [⟨some 9, .move (.tmp 4), none⟩,
    ⟨some 10, .binOp .add 3 (.tmp 9) (.const (.int .i64 1)) 3, none⟩,
    ⟨some 4, .assign (.tmp 10), none⟩])))))) (.seq (.reg [⟨some 20, .move (.tmp 3), none⟩,
    ⟨some 2, .assign (.tmp 20), none⟩]) .ret)))
theorem at89 {args : List AV} {H : AH} {Q : AV → AH → Prop} (hl : args.length ≤ 21) (h : swp Try.prog s89 (fin Try.prog [.tmp 2] Q) (env0 args) H) : AC Try.prog 89 args H Q :=
  AC.of (fun _ => []) Try.func89 rfl (by kernel_rfl) mixed (by kernel_rfl) (by kernel_rfl) rfl hl h
/-! ### function 90: codewright/codewrightref09.scale -/
def pl90 : Nat → Plan
  | 5 => [(0, []), (1, []), (2, []), (3, []), (4, []), (5, []), (6, []), (7, []), (8, []), (9, []), (10, [])]
  | _ => []
def s90 : SC :=
  .seq (.reg [⟨some 3, .box 24 (.tmp 0), none⟩,
    ⟨some 6, .assign (.const (.slice none 0 0)), none⟩]) (.seq (.reg [⟨some 9, .move (.tmp 2), none⟩,
    ⟨some 10, .call { callee := .builtin .len, args := #[.tmp 9], argTypes := #[22] }, none⟩,
    ⟨some 11, .makeSlice 22 (.tmp 10) (.tmp 10), none⟩,
    ⟨some 7, .assign (.tmp 11), none⟩]) (.seq (.seq (.reg [⟨some 8, .assign (.const (.int .i64 0)), none⟩]) (.block 0 (.loop (.seq (.seq (.reg [⟨some 12, .move (.tmp 8), none⟩,
    ⟨some 13, .move (.tmp 2), none⟩,
    ⟨some 14, .call { callee := .builtin .len, args := #[.tmp 13], argTypes := #[22] }, none⟩,
    ⟨some 15, .binOp .lss 3 (.tmp 12) (.tmp 14) 3, none⟩]) (.cond (.tmp 15) .skip (.exit 0))) (.seq (.block 1 (.draw [(0, [], ⟨some 18, .move (.tmp 7), none⟩),
    (1, [], ⟨some 19, .move (.tmp 8), none⟩),
    (2, [], ⟨some 20, .load 24 (.tmp 3), none⟩),
    (3, [], ⟨some 21, .move (.tmp 1), none⟩),
    (4, [], ⟨some 22, .move (.tmp 2), none⟩),
    (5, [], ⟨some 23, .move (.tmp 8), none⟩),
    (6, [], ⟨some 24, .indexAddr 22 (.tmp 22) (.tmp 23), none⟩),
    (7, [], ⟨some 25, .load 3 (.tmp 24), none⟩),
    (8, [], ⟨some 26, .call { callee := .value (.func 108), args := #[.tmp 20, .tmp 21, .tmp 25], argTypes := #[24, 3, 3] }, none⟩),
    (9, [], ⟨some 27, .indexAddr 22 (.tmp 18) (.tmp 19), none⟩),
    (10, [], ⟨none, .store 3 (.tmp 27) (.tmp 26), none⟩)])) (.reg [⟨some 16, .move (.tmp 8), none⟩,
    ⟨some 17, .binOp .add 3 (.tmp 16) (.const (.int .i64 1)) 3, none⟩,
    ⟨some 8, .assign (.tmp 17), none⟩])))))) (.seq (.reg [⟨some 28, .move (.tmp 7), none⟩,
    ⟨some 6, .assign (.tmp 28), none⟩]) .ret)))
theorem at90 {args : List AV} {H : AH} {Q : AV → AH → Prop} (hl : args.length ≤ 29) (h : swp Try.prog s90 (fin Try.prog [.tmp 6] Q) (env0 args) H) : AC Try.prog 90 args H Q :=
  AC.of (pl90) Try.func90 rfl (by kernel_rfl) mixed (by kernel_rfl) (by kernel_rfl) rfl hl h
/-! ### function 91: codewright/codewrightref04.Inv -/
def s91 : SC :=
  .seq (.reg [⟨some 2, .box 24 (.tmp 0), none⟩,
    ⟨some 4, .assign (.const (.int .i64 0)), none⟩]) (.seq (.seq (.reg [⟨some 5, .assign (.const (.int .i64 1)), none⟩]) (.block 0 (.loop (.seq (.seq (.reg [⟨some 6, .move (.tmp 5), none⟩,
    ⟨some 7, .load 24 (.tmp 2), none⟩,
    ⟨some 8, .call { callee := .value (.func 50), args := #[.tmp 7], argTypes := #[24] }, none⟩,
    ⟨some 9, .binOp .lss 3 (.tmp 6) (.tmp 8) 3, none⟩]) (.cond (.tmp 9) .skip (.exit 0))) (.seq (.block 1 (.seq (.reg [⟨some 12, .load 24 (.tmp 2), none⟩,
    ⟨some 13, .move (.tmp 1), none⟩,
    ⟨some 14, .move (.tmp 5), none⟩,
    ⟨some 15, .call { callee := .value (.func 108), args := #[.tmp 12, .tmp 13, .tmp 14], argTypes := #[24, 3, 3] }, none⟩,
    ⟨some 16, .binOp .eql 3 (.tmp 15) (.const (.int .i64 1)) 3, none⟩]) (.cond (.tmp 16) (.seq (.reg [⟨some 17, .move (.tmp 5), none⟩,
    ⟨some 4, .assign (.tmp 17), none⟩]) .ret) .skip))) (.reg [⟨some 10, .move (.tmp 5), none⟩,
    ⟨some 11, .binOp .add 3 (.tmp 10) (.const (.int .i64 1)) 3, none⟩,
    ⟨some 5, .assign (.tmp 11), none⟩])))))) (.seq (.reg [⟨some 4, .assign (.const (.int .i64 0)), none⟩]) .ret))
theorem at91 {args : List AV} {H : AH} {Q : AV → AH → Prop} (hl : args.length ≤ 18) (h : swp Try.prog s91 (fin Try.prog [.tmp 4] Q) (env0 args) H) : AC Try.prog 91 args H Q :=
  AC.of (fun _ => []) Try.func91 rfl (by kernel_rfl) mixed (by kernel_rfl) (by kernel_rfl) rfl hl h
/-! ### function 92: codewright/codewrightref09.AddTo -/
def pl92 : Nat → Plan
  | 7 => [(0, []), (1, []), (2, []), (3, []), (4, []), (5, []), (6, []), (7, []), (8, []), (9, []), (10, []), (11, []), (12, []), (13, [2, 6]), (14, []), (15, []), (16, [])]
  | _ => []
def s92 : SC :=
  .seq (.reg [⟨some 4, .box 24 (.tmp 0), none⟩,
    ⟨some 8, .assign (.const (.slice none 0 0)), none⟩]) (.seq (.reg [⟨some 11, .move (.tmp 1), none⟩,
    ⟨some 12, .call { callee := .builtin .len, args := #[.tmp 11], argTypes := #[22] }, none⟩,
    ⟨some 13, .makeSlice 22 (.tmp 12) (.tmp 12), none⟩,
    ⟨some 9, .assign (.tmp 13), none⟩]) (.seq (.seq (.reg [⟨some 10, .assign (.const (.int .i64 0)), none⟩]) (.block 0 (.loop (.seq (.seq (.reg [⟨some 14, .move (.tmp 10), none⟩,
    ⟨some 15, .move (.tmp 1), none⟩,
    ⟨some 16, .call { callee := .builtin .len, args := #[.tmp 15], argTypes := #[22] }, none⟩,
    ⟨some 17, .binOp .lss 3 (.tmp 14) (.tmp 16) 3, none⟩]) (.cond (.tmp 17) .skip (.exit 0))) (.seq (.block 1 (.seq (.reg [⟨some 20, .move (.tmp 9), none⟩,
    ⟨some 21, .move (.tmp 10), none⟩,
    ⟨some 22, .move (.tmp 1), none⟩,
    ⟨some 23, .move (.tmp 10), none⟩,
    ⟨some 24, .indexAddr 22 (.tmp 22) (.tmp 23), none⟩,
    ⟨some 25, .load 3 (.tmp 24), none⟩,
    ⟨some 26, .indexAddr 22 (.tmp 20) (.tmp 21), none⟩,
    ⟨none, .store 3 (.tmp 26) (.tmp 25), none⟩]) (.seq (.reg [⟨some 27, .move (.tmp 3), none⟩,
    ⟨some 28, .move (.tmp 10), none⟩,
    ⟨some 29, .indexAddr 22 (.tmp 27) (.tmp 28), none⟩,
    ⟨some 30, .load 3 (.tmp 29), none⟩,
    ⟨some 31, .binOp .neq 3 (.tmp 30) (.const (.int .i64 0)) 3, none⟩]) (.cond (.tmp 31) (.draw [(0, [], ⟨some 32, .move (.tmp 9), none⟩),
    (1, [], ⟨some 33, .move (.tmp 10), none⟩),
    (2, [], ⟨some 34, .load 24 (.tmp 4), none⟩),
    (3, [], ⟨some 35, .move (.tmp 1), none⟩),
    (4, [], ⟨some 36, .move (.tmp 10), none⟩),
    (5, [], ⟨some 37, .indexAddr 22 (.tmp 35) (.tmp 36), none⟩),
    (6, [], ⟨some 38, .load 3 (.tmp 37), none⟩),
    (7, [], ⟨some 39, .load 24 (.tmp 4), none⟩),
    (8, [], ⟨some 40, .move (.tmp 2), none⟩),
    (9, [], ⟨some 41, .move (.tmp 3), none⟩),
    (10, [], ⟨some 42, .move (.tmp 10), none⟩),
    (11, [], ⟨some 43, .indexAddr 22 (.tmp 41) (.tmp 42), none⟩),
    (12, [], ⟨some 44, .load 3 (.tmp 43), none⟩),
    (13, [2, 6], ⟨some 45, .call { callee := .value (.func 108), args := #[.tmp 39, .tmp 40, .tmp 44], argTypes := #[24, 3, 3] }, none⟩),
    (14, [], ⟨some 46, .call { callee := .value (.func 109), args := #[.tmp 34, .tmp 38, .tmp 45], argTypes := #[24, 3, 3] }, none⟩),
    (15, [], ⟨some 47, .indexAddr 22 (.tmp 32) (.tmp 33), none⟩),
    (16, [], ⟨none, .store 3 (.tmp 47) (.tmp 46), none⟩)]) .skip)))) (.reg [⟨some 18, .move (.tmp 10), none⟩,
    ⟨some 19, .binOp .add 3 (.tmp 18) (.const (.int .i64 1)) 3, none⟩,
    ⟨some 10, .assign (.tmp 19), none⟩])))))) (.seq (.reg [⟨some 48, .move (.tmp 9), none⟩,
    ⟨some 8, .assign (.tmp 48), none⟩]) .ret)))
theorem at92 {args : List AV} {H : AH} {Q : AV → AH → Prop} (hl : args.length ≤ 49) (h : swp Try.prog s92 (fin Try.prog [.tmp 8] Q) (env0 args) H) : AC Try.prog 92 args H Q :=
  AC.of (pl92) Try.func92 rfl (by kernel_rfl) mixed (by kernel_rfl) (by kernel_rfl) rfl hl h
/-! ### function 93: codewright/codewrightref04.Neg -/
def pl93 : Nat → Plan
  | 5 => [(0, []), (1, []), (2, []), (3, []), (4, []), (5, []), (6, []), (7, []), (8, []), (9, []), (10, []), (11, []), (12, []), (13, [])]
  | _ => []
def s93 : SC :=
  .seq (.reg [⟨some 2, .box 24 (.tmp 0), none⟩,
    ⟨some 4, .assign (.const (.int .i64 0)), none⟩]) (.seq (.reg [⟨some 7, .load 24 (.tmp 2), none⟩,
    ⟨some 8, .move (.tmp 1), none⟩,
    ⟨some 9, .call { callee := .value (.func 110), args := #[.tmp 7, .tmp 8], argTypes := #[24, 3] }, none⟩,
    ⟨some 5, .assign (.tmp 9), none⟩]) (.seq (.seq (.reg [⟨some 6, .assign (.const (.int .i64 0)), none⟩]) (.block 0 (.loop (.seq (.seq (.reg [⟨some 10, .move (.tmp 6), none⟩,
    ⟨some 11, .move (.tmp 5), none⟩,
    ⟨some 12, .call { callee := .builtin .len, args := #[.tmp 11], argTypes := #[22] }, none⟩,
    ⟨some 13, .binOp .lss 3 (.tmp 10) (.tmp 12) 3, none⟩]) (.cond (.tmp 13) .skip (.exit 0))) (.seq (.block 1 (.draw [(0, [], ⟨some 16, .move (.tmp 5), none⟩),
    (1, [], ⟨some 17, .move (.tmp 6), none⟩),
    (2, [], ⟨some 18, .fieldAddr 24 (.tmp 2) 0, none⟩),
    (3, [], ⟨some 19, .load 3 (.tmp 18), none⟩),
    (4, [], ⟨some 20, .move (.tmp 5), none⟩),
    (5, [], ⟨some 21, .move (.tmp 6), none⟩),
    (6, [], ⟨some 22, .indexAddr 22 (.tmp 20) (.tmp 21), none⟩),
    (7, [], ⟨some 23, .load 3 (.tmp 22), none⟩),
    (8, [], ⟨some 24, .binOp .sub 3 (.tmp 19) (.tmp 23) 3, none⟩),
    (9, [], ⟨some 25, .fieldAddr 24 (.tmp 2) 0, none⟩),
    (10, [], ⟨some 26, .load 3 (.tmp 25), none⟩),
    (11, [], ⟨some 27, .binOp .rem 3 (.tmp 24) (.tmp 26) 3, none⟩),
    (12, [], ⟨some 28, .indexAddr 22 (.tmp 16) (.tmp 17), none⟩),
    (13, [], ⟨none, .store 3 (.tmp 28) (.tmp 27), none⟩)])) (.reg [⟨some 14, .move (.tmp 6), none⟩,
    ⟨some 15, .binOp .add 3 (.tmp 14) (.const (.int .i64 1)) 3, none⟩,
    ⟨some 6, .assign (.tmp 15), none⟩])))))) (.seq (.reg [⟨some 29, .load 24 (.tmp 2), none⟩,
    ⟨some 30, .move (.tmp 5), none⟩,
    ⟨some 31, .call { callee := .value (.func 111), args := #[.tmp 29, .tmp 30], argTypes := #[24, 22] }, none⟩,
    ⟨some 4, .assign (.tmp 31), none⟩]) .ret)))
theorem at93 {args : List AV} {H : AH} {Q : AV → AH → Prop} (hl : args.length ≤ 32) (h : swp Try.prog s93 (fin Try.prog [.tmp 4] Q) (env0 args) H) : AC Try.prog 93 args H Q :=
  AC.of (pl93) Try.func93 rfl (by kernel_rfl) mixed (by kernel_rfl) (by kernel_rfl) rfl hl h
/-! ### function 94: codewright/matrix.entries -/
def s94 : SC :=
  .seq (.reg [⟨some 4, .assign (.const (.int .i64 0)), none⟩]) (.seq (.seq (.reg [⟨some 7, .move (.tmp 1), none⟩,
    ⟨some 8, .call { callee := .builtin .len, args := #[.tmp 7], argTypes := #[22] }, none⟩,
    ⟨some 9, .move (.const (.int .i64 0)), none⟩]) (.block 0 (.loop (.seq (.reg [⟨some 10, .binOp .lss 3 (.tmp 9) (.tmp 8) 3, none⟩]) (.seq (.cond (.tmp 10) .skip (.exit 0)) (.seq (.block 1 (.seq (.reg [⟨some 11, .indexAddr 22 (.tmp 7) (.tmp 9), none⟩,
    ⟨some 12, .load 3 (.tmp 11), none⟩,
    ⟨some 6, .assign (.tmp 12), none⟩]) (.seq (.reg [⟨some 13, .move (.tmp 0), none⟩,
    ⟨some 14, .move (.tmp 6), none⟩,
    ⟨some 15, .call { callee := .value (.func 103), args := #[.tmp 13, .tmp 14], argTypes := #[75, 3] }, none⟩,
    ⟨some 16, .unOp .not 4 (.tmp 15), none⟩]) (.cond (.tmp 16) (.seq (.reg [⟨some 4, .assign (.const (.int .i64 2)), none⟩]) .ret) .skip)))) (.reg [⟨some 17, .binOp .add 3 (.tmp 9) (.const (.int .i64 1)) 3, none⟩,
    ⟨some 9, .move (.tmp 17), none⟩]))))))) (.seq (.reg [⟨some 4, .assign (.const (.int .i64 0)), none⟩]) .ret))
theorem at94 {args : List AV} {H : AH} {Q : AV → AH → Prop} (hl : args.length ≤ 18) (h : swp Try.prog s94 (fin Try.prog [.tmp 4] Q) (env0 args) H) : AC Try.prog 94 args H Q :=
  AC.of (fun _ => []) Try.func94 rfl (by kernel_rfl) mixed (by kernel_rfl) (by kernel_rfl) rfl hl h
/-! ### function 95: codewright/matrix.eliminate$1 -/
def s95 : SC :=
  .seq (.reg [⟨some 4, .move (.tmp 0), none⟩,
    ⟨some 5, .load 25 (.tmp 1), none⟩,
    ⟨some 6, .call { callee := .value (.tmp 4), args := #[.tmp 5], argTypes := #[25] }, none⟩]) (.seq (.reg [⟨some 7, .load 25 (.tmp 2), none⟩,
    ⟨some 8, .call { callee := .builtin .len, args := #[.tmp 7], argTypes := #[25] }, none⟩,
    ⟨some 9, .binOp .gtr 3 (.tmp 8) (.const (.int .i64 0)) 3, none⟩]) (.cond (.tmp 9) (.reg [⟨some 10, .move (.tmp 0), none⟩,
    ⟨some 11, .load 25 (.tmp 2), none⟩,
    ⟨some 12, .call { callee := .value (.tmp 10), args := #[.tmp 11], argTypes := #[25] }, none⟩]) .skip))
theorem at95 {args : List AV} {H : AH} {Q : AV → AH → Prop} (hl : args.length ≤ 13) (h : swp Try.prog s95 (fin Try.prog [] Q) (env0 args) H) : AC Try.prog 95 args H Q :=
  AC.of (fun _ => []) Try.func95 rfl (by kernel_rfl) mixed (by kernel_rfl) (by kernel_rfl) rfl hl h
/-! ### function 96: codewright/matrix.eliminate$2 -/
def pl96 : Nat → Plan
  | 0 => [(0, []), (1, []), (2, []), (3, []), (4, []), (5, []), (6, []), (7, []), (8, []), (9, []), (10, []), (11, []), (12, []), (13, [3]), (14, []), (15, [])]
  | _ => []
def s96 : SC :=
  .draw [(0, [], ⟨some 4, .move (.tmp 0), none⟩),
    (1, [], ⟨some 5, .load 3 (.tmp 2), none⟩),
    (2, [], ⟨some 6, .move (.tmp 0), none⟩),
    (3, [], ⟨some 7, .load 3 (.tmp 1), none⟩),
    (4, [], ⟨some 8, .move (.tmp 0), none⟩),
    (5, [], ⟨some 9, .load 3 (.tmp 1), none⟩),
    (6, [], ⟨some 10, .indexAddr 25 (.tmp 8) (.tmp 9), none⟩),
    (7, [], ⟨some 11, .load 22 (.tmp 10), none⟩),
    (8, [], ⟨some 12, .move (.tmp 0), none⟩),
    (9, [], ⟨some 13, .load 3 (.tmp 2), none⟩),
    (10, [], ⟨some 14, .indexAddr 25 (.tmp 12) (.tmp 13), none⟩),
    (11, [], ⟨some 15, .load 22 (.tmp 14), none⟩),
    (12, [], ⟨some 16, .indexAddr 25 (.tmp 4) (.tmp 5), none⟩),
    (13, [3], ⟨none, .store 22 (.tmp 16) (.tmp 11), none⟩),
    (14, [], ⟨some 17, .indexAddr 25 (.tmp 6) (.tmp 7), none⟩),
    (15, [], ⟨none, .store 22 (.tmp 17) (.tmp 15), none⟩)]
theorem at96 {args : List AV} {H : AH} {Q : AV → AH → Prop} (hl : args.length ≤ 18) (h : swp Try.prog s96 (fin Try.prog [] Q) (env0 args) H) : AC Try.prog 96 args H Q :=
  AC.of (pl96) Try.func96 rfl (by kernel_rfl) mixed (by kernel_rfl) (by kernel_rfl) rfl hl h
/-! ### function 97: (*codewright/field.GF).Mul -/
def pl97 : Nat → Plan
  | 4 => [(0, []), (1, []), (2, []), (3, []), (4, []), (5, []), (6, []), (7, []), (8, []), (9, []), (10, []), (11, []), (12, []), (13, []), (14, []), (15, []), (16, []), (17, []), (18, []), (19, []), (20, []), (21, []), (22, []), (23, []), (24, []), (25, []), (26, []), (27, [])]
  | _ => []
def s97 : SC :=
  .seq (.reg [⟨some 6, .assign (.const (.int .i64 0)), none⟩]) (.seq (.reg [⟨some 7, .move (.tmp 0), none⟩,
    ⟨some 8, .move (.tmp 1), none⟩,
    ⟨some 9, .call { callee := .value (.func 78), args := #[.tmp 7, .tmp 8], argTypes := #[75, 3] }, none⟩,
    ⟨some 10, .move (.tmp 0), none⟩,
    ⟨some 11, .move (.tmp 2), none⟩,
    ⟨some 12, .call { callee := .value (.func 78), args := #[.tmp 10, .tmp 11], argTypes := #[75, 3] }, none⟩,
    ⟨some 1, .assign (.tmp 9), none⟩,
    ⟨some 2, .assign (.tmp 12), none⟩]) (.seq (.seq (.reg [⟨some 13, .move (.tmp 1), none⟩,
    ⟨some 14, .binOp .eql 3 (.tmp 13) (.const (.int .i64 0)) 3, none⟩,
    ⟨some 15, .move (.tmp 14), none⟩,
    ⟨some 16, .move (.tmp 2), some (15, false)⟩,
    ⟨some 17, .binOp .eql 3 (.tmp 16) (.const (.int .i64 0)) 3, some (15, false)⟩,
    ⟨some 18, .pick (.tmp 15) (.const (.bool true)) (.tmp 17), none⟩]) (.cond (.tmp 18) (.seq (.reg [⟨some 6, .assign (.const (.int .i64 0)), none⟩]) .ret) .skip)) (.seq (.draw [(0, [], ⟨some 19, .move (.tmp 0), none⟩),
    (1, [], ⟨some 20, .nilCheck (.tmp 19), none⟩),
    (2, [], ⟨some 21, .fieldAddr 101 (.tmp 20) 2, none⟩),
    (3, [], ⟨some 22, .load 22 (.tmp 21), none⟩),
    (4, [], ⟨some 23, .move (.tmp 0), none⟩),
    (5, [], ⟨some 24, .nilCheck (.tmp 23), none⟩),
    (6, [], ⟨some 25, .fieldAddr 101 (.tmp 24) 3, none⟩),
    (7, [], ⟨some 26, .load 22 (.tmp 25), none⟩),
    (8, [], ⟨some 27, .move (.tmp 1), none⟩),
    (9, [], ⟨some 28, .indexAddr 22 (.tmp 26) (.tmp 27), none⟩),
    (10, [], ⟨some 29, .load 3 (.tmp 28), none⟩),
    (11, [], ⟨some 30, .move (.tmp 0), none⟩),
    (12, [], ⟨some 31, .nilCheck (.tmp 30), none⟩),
    (13, [], ⟨some 32, .fieldAddr 101 (.tmp 31) 3, none⟩),
    (14, [], ⟨some 33, .load 22 (.tmp 32), none⟩),
    (15, [], ⟨some 34, .move (.tmp 2), none⟩),
    (16, [], ⟨some 35, .indexAddr 22 (.tmp 33) (.tmp 34), none⟩),
    (17, [], ⟨some 36, .load 3 (.tmp 35), none⟩),
    (18, [], ⟨some 37, .binOp .add 3 (.tmp 29) (.tmp 36) 3, none⟩),
    (19, [], ⟨some 38, .move (.tmp 0), none⟩),
    (20, [], ⟨some 39, .nilCheck (.tmp 38), none⟩),
    (21, [], ⟨some 40, .fieldAddr 101 (.tmp 39) 1, none⟩),
    (22, [], ⟨some 41, .load 3 (.tmp 40), none⟩),
    (23, [], ⟨some 42, .binOp .sub 3 (.tmp 41) (.const (.int .i64 1)) 3, none⟩),
    (24, [], ⟨some 43, .binOp .rem 3 (.tmp 37) (.tmp 42) 3, none⟩),
    (25, [], ⟨some 44, .indexAddr 22 (.tmp 22) (.tmp 43), none⟩),
    (26, [], ⟨some 45, .load 3 (.tmp 44), none⟩),
    (27, [], ⟨some 6, .assign (.tmp 45), none⟩)]) .ret)))
theorem at97 {args : List AV} {H : AH} {Q : AV → AH → Prop} (hl : args.length ≤ 46) (h : swp Try.prog s97 (fin Try.prog [.tmp 6] Q) (env0 args) H) : AC Try.prog 97 args H Q :=
  AC.of (pl97) Try.func97 rfl (by kernel_rfl) mixed (by kernel_rfl) (by kernel_rfl) rfl hl h
/-! ### function 98: (*codewright/field.GF).Inv -/
def pl98 : Nat → Plan
  | 4 => [(0, []), (1, []), (2, []), (3, []), (4, []), (5, []), (6, []), (7, []), (8, []), (9, []), (10, []), (11, []), (12, []), (13, []), (14, []), (15, []), (16, []), (17, []), (18, []), (19, []), (20, []), (21, []), (22, []), (23, []), (24, []), (25, []), (26, [])]
  | _ => []
def s98 : SC :=
  .seq (.reg [⟨some 4, .assign (.const (.int .i64 0)), none⟩,
    ⟨some 5, .assign (.const (.int .i64 0)), none⟩]) (.seq (.reg [⟨some 6, .move (.tmp 0), none⟩,
    ⟨some 7, .move (.tmp 1), none⟩,
    ⟨some 8, .call { callee := .value (.func 78), args := #[.tmp 6, .tmp 7], argTypes := #[75, 3] }, none⟩,
    ⟨some 1, .assign (.tmp 8), none⟩]) (.seq (.seq (.reg [⟨some 9, .move (.tmp 1), none⟩,
    ⟨some 10, .binOp .eql 3 (.tmp 9) (.const (.int .i64 0)) 3, none⟩]) (.cond (.tmp 10) (.seq (.reg [⟨some 4, .assign (.const (.int .i64 0)), none⟩,
    ⟨some 5, .assign (.const (.int .i64 7)), none⟩]) .ret) .skip)) (.seq (.draw [(0, [], ⟨some 11, .move (.tmp 0), none⟩),
    (1, [], ⟨some 12, .nilCheck (.tmp 11), none⟩),
    (2, [], ⟨some 13, .fieldAddr 101 (.tmp 12) 2, none⟩),
    (3, [], ⟨some 14, .load 22 (.tmp 13), none⟩),
    (4, [], ⟨some 15, .move (.tmp 0), none⟩),
    (5, [], ⟨some 16, .nilCheck (.tmp 15), none⟩),
    (6, [], ⟨some 17, .fieldAddr 101 (.tmp 16) 1, none⟩),
    (7, [], ⟨some 18, .load 3 (.tmp 17), none⟩),
    (8, [], ⟨some 19, .binOp .sub 3 (.tmp 18) (.const (.int .i64 1)) 3, none⟩),
    (9, [], ⟨some 20, .move (.tmp 0), none⟩),
    (10, [], ⟨some 21, .nilCheck (.tmp 20), none⟩),
    (11, [], ⟨some 22, .fieldAddr 101 (.tmp 21) 3, none⟩),
    (12, [], ⟨some 23, .load 22 (.tmp 22), none⟩),
    (13, [], ⟨some 24, .move (.tmp 1), none⟩),
    (14, [], ⟨some 25, .indexAddr 22 (.tmp 23) (.tmp 24), none⟩),
    (15, [], ⟨some 26, .load 3 (.tmp 25), none⟩),
    (16, [], ⟨some 27, .binOp .sub 3 (.tmp 19) (.tmp 26) 3, none⟩),
    (17, [], ⟨some 28, .move (.tmp 0), none⟩),
    (18, [], ⟨some 29, .nilCheck (.tmp 28), none⟩),
    (19, [], ⟨some 30, .fieldAddr 101 (.tmp 29) 1, none⟩),
    (20, [], ⟨some 31, .load 3 (.tmp 30), none⟩),
    (21, [], ⟨some 32, .binOp .sub 3 (.tmp 31) (.const (.int .i64 1)) 3, none⟩),
    (22, [], ⟨some 33, .binOp .rem 3 (.tmp 27) (.tmp 32) 3, none⟩),
    (23, [], ⟨some 34, .indexAddr 22 (.tmp 14) (.tmp 33), none⟩),
    (24, [], ⟨some 35, .load 3 (.tmp 34), none⟩),
    (25, [], ⟨some 4, .assign (.tmp 35), none⟩),
    (26, [], ⟨some 5, .assign (.const (.int .i64 0)), none⟩)]) .ret)))
theorem at98 {args : List AV} {H : AH} {Q : AV → AH → Prop} (hl : args.length ≤ 36) (h : swp Try.prog s98 (fin Try.prog [.tmp 4, .tmp 5] Q) (env0 args) H) : AC Try.prog 98 args H Q :=
  AC.of (pl98) Try.func98 rfl (by kernel_rfl) mixed (by kernel_rfl) (by kernel_rfl) rfl hl h
/-! ### function 99: codewright/matrix.eliminate$3 -/
def pl99 : Nat → Plan
  | 0 => [(0, []), (1, []), (2, []), (3, []), (4, []), (5, []), (6, []), (7, []), (8, [1]), (9, []), (10, [])]
  | _ => []
def s99 : SC :=
  .draw [(0, [], ⟨some 5, .move (.tmp 0), none⟩),
    (1, [], ⟨some 6, .load 3 (.tmp 3), none⟩),
    (2, [], ⟨some 7, .load 75 (.tmp 1), none⟩),
    (3, [], ⟨some 8, .load 3 (.tmp 2), none⟩),
    (4, [], ⟨some 9, .move (.tmp 0), none⟩),
    (5, [], ⟨some 10, .load 3 (.tmp 3), none⟩),
    (6, [], ⟨some 11, .indexAddr 25 (.tmp 9) (.tmp 10), none⟩),
    (7, [], ⟨some 12, .load 22 (.tmp 11), none⟩),
    (8, [1], ⟨some 13, .call { callee := .value (.func 100), args := #[.tmp 7, .tmp 8, .tmp 12], argTypes := #[75, 3, 22] }, none⟩),
    (9, [], ⟨some 14, .indexAddr 25 (.tmp 5) (.tmp 6), none⟩),
    (10, [], ⟨none, .store 22 (.tmp 14) (.tmp 13), none⟩)]
theorem at99 {args : List AV} {H : AH} {Q : AV → AH → Prop} (hl : args.length ≤ 15) (h : swp Try.prog s99 (fin Try.prog [] Q) (env0 args) H) : AC Try.prog 99 args H Q :=
  AC.of (pl99) Try.func99 rfl (by kernel_rfl) mixed (by kernel_rfl) (by kernel_rfl) rfl hl h
/-! ### function 100: (*codewright/field.GF).Scale -/
def s100 : SC :=
  .seq (.reg [⟨some 6, .assign (.const (.slice none 0 0)), none⟩]) (.seq (.reg [⟨some 10, .move (.tmp 2), none⟩,
    ⟨some 11, .call { callee := .builtin .len, args := #[.tmp 10], argTypes := #[22] }, none⟩,
    ⟨some 12, .makeSlice 22 (.tmp 11) (.tmp 11), none⟩,
    ⟨some 7, .assign (.tmp 12), none⟩]) (.seq (.seq (.reg [⟨some 13, .move (.tmp 2), none⟩,
    ⟨some 14, .call { callee := .builtin .len, args := #[.tmp 13], argTypes := #[22] }, none⟩,
    ⟨some 15, .move (.const (.int .i64 0)), none⟩]) (.block 0 (.loop (.seq (.reg [⟨some 16, .binOp .lss 3 (.tmp 15) (.tmp 14) 3, none⟩]) (.seq (.cond (.tmp 16) .skip (.exit 0)) (.seq (.block 1 (.seq (.reg [⟨some 17, .move (.tmp 15), none⟩,
    ⟨some 18, .indexAddr 22 (.tmp 13) (.tmp 15), none⟩,
    ⟨some 19, .load 3 (.tmp 18), none⟩,
    ⟨some 8, .assign (.tmp 17), none⟩,
    ⟨some 9, .assign (.tmp 19), none⟩]) (.reg [⟨some 20, .move (.tmp 7), none⟩,
    ⟨some 21, .move (.tmp 8), none⟩,
    ⟨some 22, .move (.tmp 0), none⟩,
    ⟨some 23, .move (.tmp 1), none⟩,
    ⟨some 24, .move (.tmp 9), none⟩,
    ⟨some 25, .call { callee := .value (.func 97), args := #[.tmp 22, .tmp 23, .tmp 24], argTypes := #[75, 3, 3] }, none⟩,
    ⟨some 26, .indexAddr 22 (.tmp 20) (.tmp 21), none⟩,
    ⟨none, .store 3 (.tmp 26) (.tmp 25), none⟩]))) (.reg [⟨some 27, .binOp .add 3 (.tmp 15) (.const (.int .i64 1)) 3, none⟩,
    ⟨some 15, .move (.tmp 27), none⟩]))))))) (.seq (.reg [⟨some 28, .move (.tmp 7), none⟩,
    ⟨some 6, .assign (.tmp 28), none⟩]) .ret)))
theorem at100 {args : List AV} {H : AH} {Q : AV → AH → Prop} (hl : args.length ≤ 29) (h : swp Try.prog s100 (fin Try.prog [.tmp 6] Q) (env0 args) H) : AC Try.prog 100 args H Q :=
  AC.of (fun _ => []) Try.func100 rfl (by kernel_rfl) mixed (by kernel_rfl) (by kernel_rfl) rfl hl h
/-! ### function 101: codewright/matrix.eliminate$4 -/
def pl101 : Nat → Plan
  | 0 => [(0, []), (1, []), (2, []), (3, []), (4, []), (5, []), (6, []), (8, []), (9, []), (10, []), (11, []), (7, [0, 2, 4, 9, 11]), (12, [])]
  | _ => []
def s101 : SC :=
  .draw [(0, [], ⟨some 6, .load 75 (.tmp 1), none⟩),
    (1, [], ⟨some 7, .move (.tmp 0), none⟩),
    (2, [], ⟨some 8, .load 3 (.tmp 2), none⟩),
    (3, [], ⟨some 9, .indexAddr 25 (.tmp 7) (.tmp 8), none⟩),
    (4, [], ⟨some 10, .load 22 (.tmp 9), none⟩),
    (5, [], ⟨some 11, .load 75 (.tmp 1), none⟩),
    (6, [], ⟨some 12, .load 3 (.tmp 3), none⟩),
    (8, [], ⟨some 14, .move (.tmp 0), none⟩),
    (9, [], ⟨some 15, .load 3 (.tmp 4), none⟩),
    (10, [], ⟨some 16, .indexAddr 25 (.tmp 14) (.tmp 15), none⟩),
    (11, [], ⟨some 17, .load 22 (.tmp 16), none⟩),
    (7, [0, 2, 4, 9, 11], ⟨some 13, .call { callee := .value (.func 59), args := #[.tmp 11, .tmp 12], argTypes := #[75, 3] }, none⟩),
    (12, [], ⟨some 18, .call { callee := .value (.func 102), args := #[.tmp 6, .tmp 10, .tmp 13, .tmp 17], argTypes := #[75, 22, 3, 22] }, none⟩)]
theorem at101 {args : List AV} {H : AH} {Q : AV → AH → Prop} (hl : args.length ≤ 19) (h : swp Try.prog s101 (fin Try.prog [] Q) (env0 args) H) : AC Try.prog 101 args H Q :=
  AC.of (pl101) Try.func101 rfl (by kernel_rfl) mixed (by kernel_rfl) (by kernel_rfl) rfl hl h
/-! ### function 102: codewright/matrix.add -/
def pl102 : Nat → Plan
  | 4 => [(0, []), (1, []), (2, []), (3, []), (4, []), (5, []), (6, []), (7, []), (8, []), (9, []), (10, [6]), (11, []), (12, []), (13, [])]
  | _ => []
def s102 : SC :=
  .seq (.reg [⟨some 10, .move (.tmp 3), none⟩,
    ⟨some 11, .call { callee := .builtin .len, args := #[.tmp 10], argTypes := #[22] }, none⟩,
    ⟨some 12, .move (.const (.int .i64 0)), none⟩]) (.block 0 (.loop (.seq (.reg [⟨some 13, .binOp .lss 3 (.tmp 12) (.tmp 11) 3, none⟩]) (.seq (.cond (.tmp 13) .skip (.exit 0)) (.seq (.block 1 (.seq (.reg [⟨some 14, .move (.tmp 12), none⟩,
    ⟨some 15, .indexAddr 22 (.tmp 10) (.tmp 12), none⟩,
    ⟨some 16, .load 3 (.tmp 15), none⟩,
    ⟨some 8, .assign (.tmp 14), none⟩,
    ⟨some 9, .assign (.tmp 16), none⟩]) (.seq (.reg [⟨some 17, .move (.tmp 9), none⟩,
    ⟨some 18, .binOp .neq 3 (.tmp 17) (.const (.int .i64 0)) 3, none⟩]) (.cond (.tmp 18) (.draw [(0, [], ⟨some 19, .move (.tmp 1), none⟩),
    (1, [], ⟨some 20, .move (.tmp 8), none⟩),
    (2, [], ⟨some 21, .move (.tmp 0), none⟩),
    (3, [], ⟨some 22, .move (.tmp 1), none⟩),
    (4, [], ⟨some 23, .move (.tmp 8), none⟩),
    (5, [], ⟨some 24, .indexAddr 22 (.tmp 22) (.tmp 23), none⟩),
    (6, [], ⟨some 25, .load 3 (.tmp 24), none⟩),
    (7, [], ⟨some 26, .move (.tmp 0), none⟩),
    (8, [], ⟨some 27, .move (.tmp 2), none⟩),
    (9, [], ⟨some 28, .move (.tmp 9), none⟩),
    (10, [6], ⟨some 29, .call { callee := .value (.func 97), args := #[.tmp 26, .tmp 27, .tmp 28], argTypes := #[75, 3, 3] }, none⟩),
    (11, [], ⟨some 30, .call { callee := .value (.func 112), args := #[.tmp 21, .tmp 25, .tmp 29], argTypes := #[75, 3, 3] }, none⟩),
    (12, [], ⟨some 31, .indexAddr 22 (.tmp 19) (.tmp 20), none⟩),
    (13, [], ⟨none, .store 3 (.tmp 31) (.tmp 30), none⟩)]) .skip)))) (.reg [⟨some 32, .binOp .add 3 (.tmp 12) (.const (.int .i64 1)) 3, none⟩,
    ⟨some 12, .move (.tmp 32), none⟩]))))))
theorem at102 {args : List AV} {H : AH} {Q : AV → AH → Prop} (hl : args.length ≤ 33) (h : swp Try.prog s102 (fin Try.prog [] Q) (env0 args) H) : AC Try.prog 102 args H Q :=
  AC.of (pl102) Try.func102 rfl (by kernel_rfl) mixed (by kernel_rfl) (by kernel_rfl) rfl hl h
/-! ### function 103: (*codewright/field.GF).Is -/
def s103 : SC :=
  .seq (.reg [⟨some 4, .assign (.const (.bool false)), none⟩]) (.seq (.reg [⟨some 5, .move (.tmp 1), none⟩,
    ⟨some 6, .binOp .geq 3 (.tmp 5) (.const (.int .i64 0)) 3, none⟩,
    ⟨some 7, .move (.tmp 6), none⟩,
    ⟨some 8, .move (.tmp 1), some (7, true)⟩,
    ⟨some 9, .move (.tmp 0), some (7, true)⟩,
    ⟨some 10, .nilCheck (.tmp 9), some (7, true)⟩,
    ⟨some 11, .fieldAddr 101 (.tmp 10) 1, some (7, true)⟩,
    ⟨some 12, .load 3 (.tmp 11), some (7, true)⟩,
    ⟨some 13, .binOp .lss 3 (.tmp 8) (.tmp 12) 3, some (7, true)⟩,
    ⟨some 14, .pick (.tmp 7) (.tmp 13) (.const (.bool false)), none⟩,
    ⟨some 4, .assign (.tmp 14), none⟩]) .ret)
theorem at103 {args : List AV} {H : AH} {Q : AV → AH → Prop} (hl : args.length ≤ 15) (h : swp Try.prog s103 (fin Try.prog [.tmp 4] Q) (env0 args) H) : AC Try.prog 103 args H Q :=
  AC.of (fun _ => []) Try.func103 rfl (by kernel_rfl) mixed (by kernel_rfl) (by kernel_rfl) rfl hl h
/-! ### function 104: codewright/field.digitsOf -/
def s104 : SC :=
  .seq (.reg [⟨some 6, .assign (.const (.slice none 0 0)), none⟩]) (.seq (.reg [⟨some 9, .move (.tmp 2), none⟩,
    ⟨some 10, .makeSlice 22 (.tmp 9) (.tmp 9), none⟩,
    ⟨some 7, .assign (.tmp 10), none⟩]) (.seq (.seq (.reg [⟨some 11, .move (.tmp 7), none⟩,
    ⟨some 12, .call { callee := .builtin .len, args := #[.tmp 11], argTypes := #[22] }, none⟩,
    ⟨some 13, .move (.const (.int .i64 0)), none⟩]) (.block 0 (.loop (.seq (.reg [⟨some 14, .binOp .lss 3 (.tmp 13) (.tmp 12) 3, none⟩]) (.seq (.cond (.tmp 14) .skip (.exit 0)) (.seq (.block 1 (.seq (.reg [⟨some 15, .move (.tmp 13), none⟩,
    ⟨some 8, .assign (.tmp 15), none⟩]) (.seq (.reg [⟨some 16, .move (.tmp 7), none⟩,
    ⟨some 17, .move (.tmp 8), none⟩,
    ⟨some 18, .move (.tmp 0), none⟩,
    ⟨some 19, .move (.tmp 1), none⟩,
    ⟨some 20, .binOp .rem 3 (.tmp 18) (.tmp 19) 3, none⟩,
    ⟨some 21, .indexAddr 22 (.tmp 16) (.tmp 17), none⟩,
    ⟨none, .store 3 (.tmp 21) (.tmp 20), none⟩]) (.reg [⟨some 22, .move (.tmp 0), none⟩,
    ⟨some 23, .move (.tmp 1), none⟩,
    ⟨some 24, .binOp .quo 3 (.tmp 22) (.tmp 23) 3, none⟩,
    ⟨some 0, .assign (.tmp 24), none⟩])))) (.reg [⟨some 25, .binOp .add 3 (.tmp 13) (.const (.int .i64 1)) 3, none⟩,
    ⟨some 13, .move (.tmp 25), none⟩]))))))) (.seq (.reg [⟨some 26, .move (.tmp 7), none⟩,
    ⟨some 6, .assign (.tmp 26), none⟩]) .ret)))
theorem at104 {args : List AV} {H : AH} {Q : AV → AH → Prop} (hl : args.length ≤ 27) (h : swp Try.prog s104 (fin Try.prog [.tmp 6] Q) (env0 args) H) : AC Try.prog 104 args H Q :=
  AC.of (fun _ => []) Try.func104 rfl (by kernel_rfl) mixed (by kernel_rfl) (by kernel_rfl) rfl hl h
/-! ### function 105: codewright/field.valueOf -/
def s105 : SC :=
  .seq (.reg [⟨some 4, .assign (.const (.int .i64 0)), none⟩]) (.seq (.reg [⟨some 5, .assign (.const (.int .i64 0)), none⟩]) (.seq (.seq (.reg [⟨some 7, .move (.tmp 0), none⟩,
    ⟨some 8, .call { callee := .builtin .len, args := #[.tmp 7], argTypes := #[22] }, none⟩,
    ⟨some 9, .binOp .sub 3 (.tmp 8) (.const (.int .i64 1)) 3, none⟩,
    ⟨some 6, .assign (.tmp 9), none⟩]) (.block 0 (.loop (.seq (.seq (.reg [⟨some 10, .move (.tmp 6), none⟩,
    ⟨some 11, .binOp .geq 3 (.tmp 10) (.const (.int .i64 0)) 3, none⟩]) (.cond (.tmp 11) .skip (.exit 0))) (.seq (.block 1 (.reg [⟨some 14, .move (.tmp 5), none⟩,
    ⟨some 15, .move (.tmp 1), none⟩,
    ⟨some 16, .binOp .mul 3 (.tmp 14) (.tmp 15) 3, none⟩,
    ⟨some 17, .move (.tmp 0), none⟩,
    ⟨some 18, .move (.tmp 6), none⟩,
    ⟨some 19, .indexAddr 22 (.tmp 17) (.tmp 18), none⟩,
    ⟨some 20, .load 3 (.tmp 19), none⟩,
    ⟨some 21, .binOp .add 3 (.tmp 16) (.tmp 20) 3, none⟩,
    ⟨some 5, .assign (.tmp 21), none⟩])) (.reg [⟨some 12, .move (.tmp 6), none⟩,
    ⟨some 13, .binOp .sub 3 (.tmp 12) (.const (.int .i64 1)) 3, none⟩,
    ⟨some 6, .assign (.tmp 13), none⟩])))))) (.seq (.reg [⟨some 22, .move (.tmp 5), none⟩,
    ⟨some 4, .assign (.tmp 22), none⟩]) .ret)))
theorem at105 {args : List AV} {H : AH} {Q : AV → AH → Prop} (hl : args.length ≤ 23) (h : swp Try.prog s105 (fin Try.prog [.tmp 4] Q) (env0 args) H) : AC Try.prog 105 args H Q :=
  AC.of (fun _ => []) Try.func105 rfl (by kernel_rfl) mixed (by kernel_rfl) (by kernel_rfl) rfl hl h
/-! ### function 106: (*codewright/infoset.basis).add -/
def pl106 : Nat → Plan
  | 9 => [(0, []), (1, []), (2, []), (3, []), (4, []), (5, []), (6, []), (7, []), (8, []), (9, []), (10, []), (11, []), (12, []), (13, []), (14, []), (15, []), (16, [5, 9]), (17, []), (18, []), (19, [])]
  | 15 => [(0, []), (1, []), (2, []), (3, []), (4, []), (5, []), (6, []), (7, []), (8, []), (9, []), (10, []), (11, []), (12, []), (13, [])]
  | 16 => [(0, []), (1, []), (2, []), (3, []), (4, []), (5, []), (6, []), (7, []), (8, []), (9, []), (10, []), (11, [4]), (12, []), (13, []), (14, []), (15, []), (16, [])]
  | _ => []
def s106 : SC :=
  .seq (.reg [⟨some 4, .assign (.const (.bool false)), none⟩]) (.seq (.seq (.reg [⟨some 13, .move (.tmp 0), none⟩,
    ⟨some 14, .nilCheck (.tmp 13), none⟩,
    ⟨some 15, .fieldAddr 122 (.tmp 14) 1, none⟩,
    ⟨some 16, .load 25 (.tmp 15), none⟩,
    ⟨some 17, .call { callee := .builtin .len, args := #[.tmp 16], argTypes := #[25] }, none⟩,
    ⟨some 18, .move (.const (.int .i64 0)), none⟩]) (.block 0 (.loop (.seq (.reg [⟨some 19, .binOp .lss 3 (.tmp 18) (.tmp 17) 3, none⟩]) (.seq (.cond (.tmp 19) .skip (.exit 0)) (.seq (.block 1 (.seq (.reg [⟨some 20, .move (.tmp 18), none⟩,
    ⟨some 21, .indexAddr 25 (.tmp 16) (.tmp 18), none⟩,
    ⟨some 22, .load 22 (.tmp 21), none⟩,
    ⟨some 5, .assign (.tmp 20), none⟩,
    ⟨some 6, .assign (.tmp 22), none⟩]) (.seq (.reg [⟨some 23, .move (.tmp 1), none⟩,
    ⟨some 24, .move (.tmp 0), none⟩,
    ⟨some 25, .nilCheck (.tmp 24), none⟩,
    ⟨some 26, .fieldAddr 122 (.tmp 25) 2, none⟩,
    ⟨some 27, .load 22 (.tmp 26), none⟩,
    ⟨some 28, .move (.tmp 5), none⟩,
    ⟨some 29, .indexAddr 22 (.tmp 27) (.tmp 28), none⟩,
    ⟨some 30, .load 3 (.tmp 29), none⟩,
    ⟨some 31, .indexAddr 22 (.tmp 23) (.tmp 30), none⟩,
    ⟨some 32, .load 3 (.tmp 31), none⟩,
    ⟨some 7, .assign (.tmp 32), none⟩]) (.seq (.reg [⟨some 33, .move (.tmp 7), none⟩,
    ⟨some 34, .binOp .neq 3 (.tmp 33) (.const (.int .i64 0)) 3, none⟩]) (.cond (.tmp 34) (.seq (.reg [⟨some 35, .move (.tmp 6), none⟩,
    ⟨some 36, .call { callee := .builtin .len, args := #[.tmp 35], argTypes := #[22] }, none⟩,
    ⟨some 37, .move (.const (.int .i64 0)), none⟩]) (.block 2 (.loop (.seq (.reg [⟨some 38, .binOp .lss 3 (.tmp 37) (.tmp 36) 3, none⟩]) (.seq (.cond (.tmp 38) .skip (.exit 2)) (.seq (.block 3 (.seq (.reg [⟨some 39, .move (.tmp 37), none⟩,
    ⟨some 40, .indexAddr 22 (.tmp 35) (.tmp 37), none⟩,
    ⟨some 41, .load 3 (.tmp 40), none⟩,
    ⟨some 8, .assign (.tmp 39), none⟩,
    ⟨some 9, .assign (.tmp 41), none⟩]) (.draw [(0, [], ⟨some 42, .move (.tmp 1), none⟩),
    (1, [], ⟨some 43, .move (.tmp 8), none⟩),
    (2, [], ⟨some 44, .move (.tmp 0), none⟩),
    (3, [], ⟨some 45, .nilCheck (.tmp 44), none⟩),
    (4, [], ⟨some 46, .fieldAddr 122 (.tmp 45) 0, none⟩),
    (5, [], ⟨some 47, .load 75 (.tmp 46), none⟩),
    (6, [], ⟨some 48, .move (.tmp 1), none⟩),
    (7, [], ⟨some 49, .move (.tmp 8), none⟩),
    (8, [], ⟨some 50, .indexAddr 22 (.tmp 48) (.tmp 49), none⟩),
    (9, [], ⟨some 51, .load 3 (.tmp 50), none⟩),
    (10, [], ⟨some 52, .move (.tmp 0), none⟩),
    (11, [], ⟨some 53, .nilCheck (.tmp 52), none⟩),
    (12, [], ⟨some 54, .fieldAddr 122 (.tmp 53) 0, none⟩),
    (13, [], ⟨some 55, .load 75 (.tmp 54), none⟩),
    (14, [], ⟨some 56, .move (.tmp 7), none⟩),
    (15, [], ⟨some 57, .move (.tmp 9), none⟩),
    (16, [5, 9], ⟨some 58, .call { callee := .value (.func 97), args := #[.tmp 55, .tmp 56, .tmp 57], argTypes := #[75, 3, 3] }, none⟩),
    (17, [], ⟨some 59, .call { callee := .value (.func 113), args := #[.tmp 47, .tmp 51, .tmp 58], argTypes := #[75, 3, 3] }, none⟩),
    (18, [], ⟨some 60, .indexAddr 22 (.tmp 42) (.tmp 43), none⟩),
    (19, [], ⟨none, .store 3 (.tmp 60) (.tmp 59), none⟩)]))) (.reg [⟨some 61, .binOp .add 3 (.tmp 37) (.const (.int .i64 1)) 3, none⟩,
    ⟨some 37, .move (.tmp 61), none⟩]))))))) .skip))))) (.reg [⟨some 62, .binOp .add 3 (.tmp 18) (.const (.int .i64 1)) 3, none⟩,
    ⟨some 18, .move (.tmp 62), none⟩]))))))) (.seq (.reg [⟨some 63, .move (.tmp 1), none⟩,
    ⟨some 64, .call { callee := .value (.func 114), args := #[.tmp 63, .func 115], argTypes := #[22, 70] }, none⟩,
    ⟨some 10, .assign (.tmp 64), none⟩]) (.seq (.seq (.reg [⟨some 65, .move (.tmp 10), none⟩,
    ⟨some 66, .binOp .lss 3 (.tmp 65) (.const (.int .i64 0)) 3, none⟩]) (.cond (.tmp 66) (.seq (.reg [⟨some 4, .assign (.const (.bool false)), none⟩]) .ret) .skip)) (.seq (.draw [(0, [], ⟨some 68, .move (.tmp 0), none⟩),
    (1, [], ⟨some 69, .nilCheck (.tmp 68), none⟩),
    (2, [], ⟨some 70, .fieldAddr 122 (.tmp 69) 0, none⟩),
    (3, [], ⟨some 71, .load 75 (.tmp 70), none⟩),
    (4, [], ⟨some 72, .move (.tmp 1), none⟩),
    (5, [], ⟨some 73, .move (.tmp 10), none⟩),
    (6, [], ⟨some 74, .indexAddr 22 (.tmp 72) (.tmp 73), none⟩),
    (7, [], ⟨some 75, .load 3 (.tmp 74), none⟩),
    (8, [], ⟨some 76, .call { callee := .value (.func 98), args := #[.tmp 71, .tmp 75], argTypes := #[75, 3] }, none⟩),
    (9, [], ⟨some 67, .move (.tmp 76), none⟩),
    (10, [], ⟨some 77, .extract (.tmp 67) 0, none⟩),
    (11, [], ⟨some 78, .extract (.tmp 67) 1, none⟩),
    (12, [], ⟨some 11, .assign (.tmp 77), none⟩),
    (13, [], ⟨some 12, .assign (.tmp 78), none⟩)]) (.seq (.draw [(0, [], ⟨some 79, .move (.tmp 0), none⟩),
    (1, [], ⟨some 80, .move (.tmp 0), none⟩),
    (2, [], ⟨some 81, .nilCheck (.tmp 80), none⟩),
    (3, [], ⟨some 82, .fieldAddr 122 (.tmp 81) 1, none⟩),
    (4, [], ⟨some 83, .load 25 (.tmp 82), none⟩),
    (5, [], ⟨some 84, .move (.tmp 0), none⟩),
    (6, [], ⟨some 85, .nilCheck (.tmp 84), none⟩),
    (7, [], ⟨some 86, .fieldAddr 122 (.tmp 85) 0, none⟩),
    (8, [], ⟨some 87, .load 75 (.tmp 86), none⟩),
    (9, [], ⟨some 88, .move (.tmp 11), none⟩),
    (10, [], ⟨some 89, .move (.tmp 1), none⟩),
    (11, [4], ⟨some 90, .call { callee := .value (.func 100), args := #[.tmp 87, .tmp 88, .tmp 89], argTypes := #[75, 3, 22] }, none⟩),
    (12, [], ⟨some 91, .buildSlice 25 1 #[(0, .tmp 90)], none⟩),
    (13, [], ⟨some 92, .call { callee := .builtin .append, args := #[.tmp 83, .tmp 91], argTypes := #[25, 25] }, none⟩),
    (14, [], ⟨some 93, .nilCheck (.tmp 79), none⟩),
    (15, [], ⟨some 94, .fieldAddr 122 (.tmp 93) 1, none⟩),
    (16, [], ⟨none, .store 25 (.tmp 94) (.tmp 92), none⟩)]) (.seq (.reg [⟨some 95, .move (.tmp 0), none⟩,
    ⟨some 96, .move (.tmp 0), none⟩,
    ⟨some 97, .nilCheck (.tmp 96), none⟩,
    ⟨some 98, .fieldAddr 122 (.tmp 97) 2, none⟩,
    ⟨some 99, .load 22 (.tmp 98), none⟩,
    ⟨some 100, .move (.tmp 10), none⟩,
    ⟨some 101, .buildSlice 22 1 #[(0, .tmp 100)], none⟩,
    ⟨some 102, .call { callee := .builtin .append, args := #[.tmp 99, .tmp 101], argTypes := #[22, 22] }, none⟩,
    ⟨some 103, .nilCheck (.tmp 95), none⟩,
    ⟨some 104, .fieldAddr 122 (.tmp 103) 2, none⟩,
    ⟨none, .store 22 (.tmp 104) (.tmp 102), none⟩]) (.seq (.reg [⟨some 4, .assign (.const (.bool true)), none⟩]) .ret)))))))
theorem at106 {args : List AV} {H : AH} {Q : AV → AH → Prop} (hl : args.length ≤ 105) (h : swp Try.prog s106 (fin Try.prog [.tmp 4] Q) (env0 args) H) : AC Try.prog 106 args H Q :=
  AC.of (pl106) Try.func106 rfl (by kernel_rfl) mixed (by kernel_rfl) (by kernel_rfl) rfl hl h
/-! ### function 107: codewright/infoset.column -/
def s107 : SC :=
  .seq (.reg [⟨some 2, .box 27 (.tmp 0), none⟩,
    ⟨some 4, .assign (.const (.slice none 0 0)), none⟩]) (.seq (.reg [⟨some 8, .fieldAddr 27 (.tmp 2) 2, none⟩,
    ⟨some 9, .load 25 (.tmp 8), none⟩,
    ⟨some 10, .call { callee := .builtin .len, args := #[.tmp 9], argTypes := #[25] }, none⟩,
    ⟨some 11, .makeSlice 22 (.tmp 10) (.tmp 10), none⟩,
    ⟨some 5, .assign (.tmp 11), none⟩]) (.seq (.seq (.reg [⟨some 12, .fieldAddr 27 (.tmp 2) 2, none⟩,
    ⟨some 13, .load 25 (.tmp 12), none⟩,
    ⟨some 14, .call { callee := .builtin .len, args := #[.tmp 13], argTypes := #[25] }, none⟩,
    ⟨some 15, .move (.const (.int .i64 0)), none⟩]) (.block 0 (.loop (.seq (.reg [⟨some 16, .binOp .lss 3 (.tmp 15) (.tmp 14) 3, none⟩]) (.seq (.cond (.tmp 16) .skip (.exit 0)) (.seq (.block 1 (.seq (.reg [⟨some 17, .move (.tmp 15), none⟩,
    ⟨some 18, .indexAddr 25 (.tmp 13) (.tmp 15), none⟩,
    ⟨some 19, .load 22 (.tmp 18), none⟩,
    ⟨some 6, .assign (.tmp 17), none⟩,
    ⟨some 7, .assign (.tmp 19), none⟩]) (.reg [⟨some 20, .move (.tmp 5), none⟩,
    ⟨some 21, .move (.tmp 6), none⟩,
    ⟨some 22, .move (.tmp 7), none⟩,
    ⟨some 23, .move (.tmp 1), none⟩,
    ⟨some 24, .indexAddr 22 (.tmp 22) (.tmp 23), none⟩,
    ⟨some 25, .load 3 (.tmp 24), none⟩,
    ⟨some 26, .indexAddr 22 (.tmp 20) (.tmp 21), none⟩,
    ⟨none, .store 3 (.tmp 26) (.tmp 25), none⟩]))) (.reg [⟨some 27, .binOp .add 3 (.tmp 15) (.const (.int .i64 1)) 3, none⟩,
    ⟨some 15, .move (.tmp 27), none⟩]))))))) (.seq (.reg [⟨some 28, .move (.tmp 5), none⟩,
    ⟨some 4, .assign (.tmp 28), none⟩]) .ret)))
theorem at107 {args : List AV} {H : AH} {Q : AV → AH → Prop} (hl : args.length ≤ 29) (h : swp Try.prog s107 (fin Try.prog [.tmp 4] Q) (env0 args) H) : AC Try.prog 107 args H Q :=
  AC.of (fun _ => []) Try.func107 rfl (by kernel_rfl) mixed (by kernel_rfl) (by kernel_rfl) rfl hl h
/-! ### function 108: codewright/codewrightref04.Mul -/
def pl108 : Nat → Plan
  | 10 => [(0, []), (1, []), (2, []), (3, []), (4, []), (5, []), (6, []), (7, []), (8, []), (9, []), (10, []), (11, []), (12, []), (13, []), (14, []), (15, []), (16, []), (17, []), (18, []), (19, []), (20, []), (21, []), (22, []), (23, []), (24, [])]
  | 17 => [(0, []), (1, []), (2, []), (3, []), (4, []), (5, []), (6, []), (7, []), (8, []), (9, []), (10, []), (11, []), (12, []), (13, []), (14, []), (15, []), (16, []), (17, []), (18, []), (19, []), (20, []), (21, []), (22, []), (23, []), (24, []), (25, []), (26, []), (27, []), (28, []), (29, []), (30, []), (31, []), (32, []), (33, []), (34, [])]
  | 18 => [(0, []), (1, []), (2, []), (3, []), (4, []), (5, []), (6, [])]
  | _ => []
def s108 : SC :=
  .seq (.reg [⟨some 3, .box 24 (.tmp 0), none⟩,
    ⟨some 6, .assign (.const (.int .i64 0)), none⟩]) (.seq (.reg [⟨some 14, .load 24 (.tmp 3), none⟩,
    ⟨some 15, .move (.tmp 1), none⟩,
    ⟨some 16, .call { callee := .value (.func 110), args := #[.tmp 14, .tmp 15], argTypes := #[24, 3] }, none⟩,
    ⟨some 7, .assign (.tmp 16), none⟩]) (.seq (.reg [⟨some 17, .load 24 (.tmp 3), none⟩,
    ⟨some 18, .move (.tmp 2), none⟩,
    ⟨some 19, .call { callee := .value (.func 110), args := #[.tmp 17, .tmp 18], argTypes := #[24, 3] }, none⟩,
    ⟨some 8, .assign (.tmp 19), none⟩]) (.seq (.reg [⟨some 20, .fieldAddr 24 (.tmp 3) 1, none⟩,
    ⟨some 21, .load 3 (.tmp 20), none⟩,
    ⟨some 22, .binOp .mul 3 (.const (.int .i64 2)) (.tmp 21) 3, none⟩,
    ⟨some 23, .binOp .sub 3 (.tmp 22) (.const (.int .i64 1)) 3, none⟩,
    ⟨some 24, .makeSlice 22 (.tmp 23) (.tmp 23), none⟩,
    ⟨some 9, .assign (.tmp 24), none⟩]) (.seq (.seq (.reg [⟨some 10, .assign (.const (.int .i64 0)), none⟩]) (.block 0 (.loop (.seq (.seq (.reg [⟨some 25, .move (.tmp 10), none⟩,
    ⟨some 26, .fieldAddr 24 (.tmp 3) 1, none⟩,
    ⟨some 27, .load 3 (.tmp 26), none⟩,
    ⟨some 28, .binOp .lss 3 (.tmp 25) (.tmp 27) 3, none⟩]) (.cond (.tmp 28) .skip (.exit 0))) (.seq (.block 1 (.seq (.reg [⟨some 11, .assign (.const (.int .i64 0)), none⟩]) (.block 2 (.loop (.seq (.seq (.reg [⟨some 31, .move (.tmp 11), none⟩,
    ⟨some 32, .fieldAddr 24 (.tmp 3) 1, none⟩,
    ⟨some 33, .load 3 (.tmp 32), none⟩,
    ⟨some 34, .binOp .lss 3 (.tmp 31) (.tmp 33) 3, none⟩]) (.cond (.tmp 34) .skip (.exit 2))) (.seq (.block 3 (.draw [(0, [], ⟨some 37, .move (.tmp 9), none⟩),
    (1, [], ⟨some 38, .move (.tmp 10), none⟩),
    (2, [], ⟨some 39, .move (.tmp 11), none⟩),
    (3, [], ⟨some 40, .binOp .add 3 (.tmp 38) (.tmp 39) 3, none⟩),
    (4, [], ⟨some 41, .move (.tmp 9), none⟩),
    (5, [], ⟨some 42, .move (.tmp 10), none⟩),
    (6, [], ⟨some 43, .move (.tmp 11), none⟩),
    (7, [], ⟨some 44, .binOp .add 3 (.tmp 42) (.tmp 43) 3, none⟩),
    (8, [], ⟨some 45, .indexAddr 22 (.tmp 41) (.tmp 44), none⟩),
    (9, [], ⟨some 46, .load 3 (.tmp 45), none⟩),
    (10, [], ⟨some 47, .move (.tmp 7), none⟩),
    (11, [], ⟨some 48, .move (.tmp 10), none⟩),
    (12, [], ⟨some 49, .indexAddr 22 (.tmp 47) (.tmp 48), none⟩),
    (13, [], ⟨some 50, .load 3 (.tmp 49), none⟩),
    (14, [], ⟨some 51, .move (.tmp 8), none⟩),
    (15, [], ⟨some 52, .move (.tmp 11), none⟩),
    (16, [], ⟨some 53, .indexAddr 22 (.tmp 51) (.tmp 52), none⟩),
    (17, [], ⟨some 54, .load 3 (.tmp 53), none⟩),
    (18, [], ⟨some 55, .binOp .mul 3 (.tmp 50) (.tmp 54) 3, none⟩),
    (19, [], ⟨some 56, .binOp .add 3 (.tmp 46) (.tmp 55) 3, none⟩),
    (20, [], ⟨some 57, .fieldAddr 24 (.tmp 3) 0, none⟩),
    (21, [], ⟨some 58, .load 3 (.tmp 57), none⟩),
    (22, [], ⟨some 59, .binOp .rem 3 (.tmp 56) (.tmp 58) 3, none⟩),
    (23, [], ⟨some 60, .indexAddr 22 (.tmp 37) (.tmp 40), none⟩),
    (24, [], ⟨none, .store 3 (.tmp 60) (.tmp 59), none⟩)])) (.reg [⟨some 35, .move (.tmp 11), none⟩,
    ⟨some 36, .binOp .add 3 (.tmp 35) (.const (.int .i64 1)) 3, none⟩,
    ⟨some 11, .assign (.tmp 36), none⟩]))))))) (.reg [⟨some 29, .move (.tmp 10), none⟩,
    ⟨some 30, .binOp .add 3 (.tmp 29) (.const (.int .i64 1)) 3, none⟩,
    ⟨some 10, .assign (.tmp 30), none⟩])))))) (.seq (.seq (.reg [⟨some 61, .fieldAddr 24 (.tmp 3) 1, none⟩,
    ⟨some 62, .load 3 (.tmp 61), none⟩,
    ⟨some 63, .binOp .mul 3 (.const (.int .i64 2)) (.tmp 62) 3, none⟩,
    ⟨some 64, .binOp .sub 3 (.tmp 63) (.const (.int .i64 2)) 3, none⟩,
    ⟨some 12, .assign (.tmp 64), none⟩]) (.block 4 (.loop (.seq (.seq (.reg [⟨some 65, .move (.tmp 12), none⟩,
    ⟨some 66, .fieldAddr 24 (.tmp 3) 1, none⟩,
    ⟨some 67, .load 3 (.tmp 66), none⟩,
    ⟨some 68, .binOp .geq 3 (.tmp 65) (.tmp 67) 3, none⟩]) (.cond (.tmp 68) .skip (.exit 4))) (.seq (.block 5 (.seq (.reg [⟨some 13, .assign (.const (.int .i64 0)), none⟩]) (.block 6 (.loop (.seq (.seq (.reg [⟨some 71, .move (.tmp 13), none⟩,
    ⟨some 72, .fieldAddr 24 (.tmp 3) 1, none⟩,
    ⟨some 73, .load 3 (.tmp 72), none⟩,
    ⟨some 74, .binOp .lss 3 (.tmp 71) (.tmp 73) 3, none⟩]) (.cond (.tmp 74) .skip (.exit 6))) (.seq (.block 7 (.draw [(0, [], ⟨some 77, .move (.tmp 9), none⟩),
    (1, [], ⟨some 78, .move (.tmp 12), none⟩),
    (2, [], ⟨some 79, .fieldAddr 24 (.tmp 3) 1, none⟩),
    (3, [], ⟨some 80, .load 3 (.tmp 79), none⟩),
    (4, [], ⟨some 81, .binOp .sub 3 (.tmp 78) (.tmp 80) 3, none⟩),
    (5, [], ⟨some 82, .move (.tmp 13), none⟩),
    (6, [], ⟨some 83, .binOp .add 3 (.tmp 81) (.tmp 82) 3, none⟩),
    (7, [], ⟨some 84, .move (.tmp 9), none⟩),
    (8, [], ⟨some 85, .move (.tmp 12), none⟩),
    (9, [], ⟨some 86, .fieldAddr 24 (.tmp 3) 1, none⟩),
    (10, [], ⟨some 87, .load 3 (.tmp 86), none⟩),
    (11, [], ⟨some 88, .binOp .sub 3 (.tmp 85) (.tmp 87) 3, none⟩),
    (12, [], ⟨some 89, .move (.tmp 13), none⟩),
    (13, [], ⟨some 90, .binOp .add 3 (.tmp 88) (.tmp 89) 3, none⟩),
    (14, [], ⟨some 91, .indexAddr 22 (.tmp 84) (.tmp 90), none⟩),
    (15, [], ⟨some 92, .load 3 (.tmp 91), none⟩),
    (16, [], ⟨some 93, .fieldAddr 24 (.tmp 3) 0, none⟩),
    (17, [], ⟨some 94, .load 3 (.tmp 93), none⟩),
    (18, [], ⟨some 95, .move (.tmp 9), none⟩),
    (19, [], ⟨some 96, .move (.tmp 12), none⟩),
    (20, [], ⟨some 97, .indexAddr 22 (.tmp 95) (.tmp 96), none⟩),
    (21, [], ⟨some 98, .load 3 (.tmp 97), none⟩),
    (22, [], ⟨some 99, .binOp .sub 3 (.tmp 94) (.tmp 98) 3, none⟩),
    (23, [], ⟨some 100, .fieldAddr 24 (.tmp 3) 2, none⟩),
    (24, [], ⟨some 101, .load 22 (.tmp 100), none⟩),
    (25, [], ⟨some 102, .move (.tmp 13), none⟩),
    (26, [], ⟨some 103, .indexAddr 22 (.tmp 101) (.tmp 102), none⟩),
    (27, [], ⟨some 104, .load 3 (.tmp 103), none⟩),
    (28, [], ⟨some 105, .binOp .mul 3 (.tmp 99) (.tmp 104) 3, none⟩),
    (29, [], ⟨some 106, .binOp .add 3 (.tmp 92) (.tmp 105) 3, none⟩),
    (30, [], ⟨some 107, .fieldAddr 24 (.tmp 3) 0, none⟩),
    (31, [], ⟨some 108, .load 3 (.tmp 107), none⟩),
    (32, [], ⟨some 109, .binOp .rem 3 (.tmp 106) (.tmp 108) 3, none⟩),
    (33, [], ⟨some 110, .indexAddr 22 (.tmp 77) (.tmp 83), none⟩),
    (34, [], ⟨none, .store 3 (.tmp 110) (.tmp 109), none⟩)])) (.reg [⟨some 75, .move (.tmp 13), none⟩,
    ⟨some 76, .binOp .add 3 (.tmp 75) (.const (.int .i64 1)) 3, none⟩,
    ⟨some 13, .assign (.tmp 76), none⟩]))))))) (.reg [⟨some 69, .move (.tmp 12), none⟩,
    ⟨some 70, .binOp .sub 3 (.tmp 69) (.const (.int .i64 1)) 3, none⟩,
    ⟨some 12, .assign (.tmp 70), none⟩])))))) (.seq (.draw [(0, [], ⟨some 111, .load 24 (.tmp 3), none⟩),
    (1, [], ⟨some 112, .move (.tmp 9), none⟩),
    (2, [], ⟨some 113, .fieldAddr 24 (.tmp 3) 1, none⟩),
    (3, [], ⟨some 114, .load 3 (.tmp 113), none⟩),
    (4, [], ⟨some 115, .slice 22 (.tmp 112) none (some (.tmp 114)) none, none⟩),
    (5, [], ⟨some 116, .call { callee := .value (.func 111), args := #[.tmp 111, .tmp 115], argTypes := #[24, 22] }, none⟩),
    (6, [], ⟨some 6, .assign (.tmp 116), none⟩)]) .ret))))))
theorem at108 {args : List AV} {H : AH} {Q : AV → AH → Prop} (hl : args.length ≤ 117) (h : swp Try.prog s108 (fin Try.prog [.tmp 6] Q) (env0 args) H) : AC Try.prog 108 args H Q :=
  AC.of (pl108) Try.func108 rfl (by kernel_rfl) mixed (by kernel_rfl) (by kernel_rfl) rfl hl h
/-! ### function 109: codewright/codewrightref04.Add -/
def pl109 : Nat → Plan
  | 6 => [(0, []), (1, []), (2, []), (3, []), (4, []), (5, []), (6, []), (7, []), (8, []), (9, []), (10, []), (11, []), (12, []), (13, []), (14, []), (15, [])]
  | _ => []
def s109 : SC :=
  .seq (.reg [⟨some 3, .box 24 (.tmp 0), none⟩,
    ⟨some 6, .assign (.const (.int .i64 0)), none⟩]) (.seq (.reg [⟨some 10, .load 24 (.tmp 3), none⟩,
    ⟨some 11, .move (.tmp 1), none⟩,
    ⟨some 12, .call { callee := .value (.func 110), args := #[.tmp 10, .tmp 11], argTypes := #[24, 3] }, none⟩,
    ⟨some 7, .assign (.tmp 12), none⟩]) (.seq (.reg [⟨some 13, .load 24 (.tmp 3), none⟩,
    ⟨some 14, .move (.tmp 2), none⟩,
    ⟨some 15, .call { callee := .value (.func 110), args := #[.tmp 13, .tmp 14], argTypes := #[24, 3] }, none⟩,
    ⟨some 8, .assign (.tmp 15), none⟩]) (.seq (.seq (.reg [⟨some 9, .assign (.const (.int .i64 0)), none⟩]) (.block 0 (.loop (.seq (.seq (.reg [⟨some 16, .move (.tmp 9), none⟩,
    ⟨some 17, .move (.tmp 7), none⟩,
    ⟨some 18, .call { callee := .builtin .len, args := #[.tmp 17], argTypes := #[22] }, none⟩,
    ⟨some 19, .binOp .lss 3 (.tmp 16) (.tmp 18) 3, none⟩]) (.cond (.tmp 19) .skip (.exit 0))) (.seq (.block 1 (.draw [(0, [], ⟨some 22, .move (.tmp 7), none⟩),
    (1, [], ⟨some 23, .move (.tmp 9), none⟩),
    (2, [], ⟨some 24, .move (.tmp 7), none⟩),
    (3, [], ⟨some 25, .move (.tmp 9), none⟩),
    (4, [], ⟨some 26, .indexAddr 22 (.tmp 24) (.tmp 25), none⟩),
    (5, [], ⟨some 27, .load 3 (.tmp 26), none⟩),
    (6, [], ⟨some 28, .move (.tmp 8), none⟩),
    (7, [], ⟨some 29, .move (.tmp 9), none⟩),
    (8, [], ⟨some 30, .indexAddr 22 (.tmp 28) (.tmp 29), none⟩),
    (9, [], ⟨some 31, .load 3 (.tmp 30), none⟩),
    (10, [], ⟨some 32, .binOp .add 3 (.tmp 27) (.tmp 31) 3, none⟩),
    (11, [], ⟨some 33, .fieldAddr 24 (.tmp 3) 0, none⟩),
    (12, [], ⟨some 34, .load 3 (.tmp 33), none⟩),
    (13, [], ⟨some 35, .binOp .rem 3 (.tmp 32) (.tmp 34) 3, none⟩),
    (14, [], ⟨some 36, .indexAddr 22 (.tmp 22) (.tmp 23), none⟩),
    (15, [], ⟨none, .store 3 (.tmp 36) (.tmp 35), none⟩)])) (.reg [⟨some 20, .move (.tmp 9), none⟩,
    ⟨some 21, .binOp .add 3 (.tmp 20) (.const (.int .i64 1)) 3, none⟩,
    ⟨some 9, .assign (.tmp 21), none⟩])))))) (.seq (.reg [⟨some 37, .load 24 (.tmp 3), none⟩,
    ⟨some 38, .move (.tmp 7), none⟩,
    ⟨some 39, .call { callee := .value (.func 111), args := #[.tmp 37, .tmp 38], argTypes := #[24, 22] }, none⟩,
    ⟨some 6, .assign (.tmp 39), none⟩]) .ret))))
theorem at109 {args : List AV} {H : AH} {Q : AV → AH → Prop} (hl : args.length ≤ 40) (h : swp Try.prog s109 (fin Try.prog [.tmp 6] Q) (env0 args) H) : AC Try.prog 109 args H Q :=
  AC.of (pl109) Try.func109 rfl (by kernel_rfl) mixed (by kernel_rfl) (by kernel_rfl) rfl hl h
/-! ### function 110: codewright/codewrightref04.Digits -/
def pl110 : Nat → Plan
  | 1 => [(0, []), (1, []), (3, []), (4, []), (5, []), (6, []), (2, [4, 6]), (7, []), (8, [])]
  | _ => []
def s110 : SC :=
  .seq (.reg [⟨some 2, .box 24 (.tmp 0), none⟩,
    ⟨some 4, .assign (.const (.slice none 0 0)), none⟩]) (.seq (.draw [(0, [], ⟨some 5, .load 24 (.tmp 2), none⟩),
    (1, [], ⟨some 6, .move (.tmp 1), none⟩),
    (3, [], ⟨some 8, .fieldAddr 24 (.tmp 2) 0, none⟩),
    (4, [], ⟨some 9, .load 3 (.tmp 8), none⟩),
    (5, [], ⟨some 10, .fieldAddr 24 (.tmp 2) 1, none⟩),
    (6, [], ⟨some 11, .load 3 (.tmp 10), none⟩),
    (2, [4, 6], ⟨some 7, .call { callee := .value (.func 116), args := #[.tmp 5, .tmp 6], argTypes := #[24, 3] }, none⟩),
    (7, [], ⟨some 12, .call { callee := .value (.func 69), args := #[.tmp 7, .tmp 9, .tmp 11], argTypes := #[3, 3, 3] }, none⟩),
    (8, [], ⟨some 4, .assign (.tmp 12), none⟩)]) .ret)
theorem at110 {args : List AV} {H : AH} {Q : AV → AH → Prop} (hl : args.length ≤ 13) (h : swp Try.prog s110 (fin Try.prog [.tmp 4] Q) (env0 args) H) : AC Try.prog 110 args H Q :=
  AC.of (pl110) Try.func110 rfl (by kernel_rfl) mixed (by kernel_rfl) (by kernel_rfl) rfl hl h
/-! ### function 111: codewright/codewrightref04.Value -/
def pl111 : Nat → Plan
  | 5 => [(0, []), (1, []), (2, []), (3, []), (4, []), (5, []), (6, []), (7, []), (8, []), (9, [])]
  | _ => []
def s111 : SC :=
  .seq (.reg [⟨some 2, .box 24 (.tmp 0), none⟩,
    ⟨some 4, .assign (.const (.int .i64 0)), none⟩]) (.seq (.reg [⟨some 5, .assign (.const (.int .i64 0)), none⟩]) (.seq (.seq (.reg [⟨some 7, .move (.tmp 1), none⟩,
    ⟨some 8, .call { callee := .builtin .len, args := #[.tmp 7], argTypes := #[22] }, none⟩,
    ⟨some 9, .binOp .sub 3 (.tmp 8) (.const (.int .i64 1)) 3, none⟩,
    ⟨some 6, .assign (.tmp 9), none⟩]) (.block 0 (.loop (.seq (.seq (.reg [⟨some 10, .move (.tmp 6), none⟩,
    ⟨some 11, .binOp .geq 3 (.tmp 10) (.const (.int .i64 0)) 3, none⟩]) (.cond (.tmp 11) .skip (.exit 0))) (.seq (.block 1 (.draw [(0, [], ⟨some 14, .move (.tmp 5), none⟩),
    (1, [], ⟨some 15, .fieldAddr 24 (.tmp 2) 0, none⟩),
    (2, [], ⟨some 16, .load 3 (.tmp 15), none⟩),
    (3, [], ⟨some 17, .binOp .mul 3 (.tmp 14) (.tmp 16) 3, none⟩),
    (4, [], ⟨some 18, .move (.tmp 1), none⟩),
    (5, [], ⟨some 19, .move (.tmp 6), none⟩),
    (6, [], ⟨some 20, .indexAddr 22 (.tmp 18) (.tmp 19), none⟩),
    (7, [], ⟨some 21, .load 3 (.tmp 20), none⟩),
    (8, [], ⟨some 22, .binOp .add 3 (.tmp 17) (.tmp 21) 3, none⟩),
    (9, [], ⟨some 5, .assign (.tmp 22), none⟩)])) (.reg [⟨some 12, .move (.tmp 6), none⟩,
    ⟨some 13, .binOp .sub 3 (.tmp 12) (.const (.int .i64 1)) 3, none⟩,
    ⟨some 6, .assign (.tmp 13), none⟩])))))) (.seq (.reg [⟨some 23, .move (.tmp 5), none⟩,
    ⟨some 4, .assign (.tmp 23), none⟩]) .ret)))
theorem at111 {args : List AV} {H : AH} {Q : AV → AH → Prop} (hl : args.length ≤ 24) (h : swp Try.prog s111 (fin Try.prog [.tmp 4] Q) (env0 args) H) : AC Try.prog 111 args H Q :=
  AC.of (pl111) Try.func111 rfl (by kernel_rfl) mixed (by kernel_rfl) (by kernel_rfl) rfl hl h
/-! ### function 112: (*codewright/field.GF).Add -/
def pl112 : Nat → Plan
  | 6 => [(0, []), (1, []), (2, []), (3, []), (4, []), (5, []), (6, []), (7, []), (8, []), (9, []), (10, []), (11, []), (12, []), (13, []), (14, []), (15, []), (16, []), (17, []), (18, []), (19, []), (20, []), (21, []), (22, []), (23, []), (24, []), (25, [])]
  | _ => []
def s112 : SC :=
  .seq (.reg [⟨some 6, .assign (.const (.int .i64 0)), none⟩]) (.seq (.reg [⟨some 9, .move (.tmp 0), none⟩,
    ⟨some 10, .move (.tmp 1), none⟩,
    ⟨some 11, .call { callee := .value (.func 78), args := #[.tmp 9, .tmp 10], argTypes := #[75, 3] }, none⟩,
    ⟨some 12, .move (.tmp 0), none⟩,
    ⟨some 13, .move (.tmp 2), none⟩,
    ⟨some 14, .call { callee := .value (.func 78), args := #[.tmp 12, .tmp 13], argTypes := #[75, 3] }, none⟩,
    ⟨some 1, .assign (.tmp 11), none⟩,
    ⟨some 2, .assign (.tmp 14), none⟩]) (.seq (.seq (.reg [⟨some 15, .move (.tmp 0), none⟩,
    ⟨some 16, .nilCheck (.tmp 15), none⟩,
    ⟨some 17, .fieldAddr 101 (.tmp 16) 0, none⟩,
    ⟨some 18, .fieldAddr 24 (.tmp 17) 0, none⟩,
    ⟨some 19, .load 3 (.tmp 18), none⟩,
    ⟨some 20, .binOp .eql 3 (.tmp 19) (.const (.int .i64 2)) 3, none⟩]) (.cond (.tmp 20) (.seq (.reg [⟨some 21, .move (.tmp 1), none⟩,
    ⟨some 22, .move (.tmp 2), none⟩,
    ⟨some 23, .binOp .xor 3 (.tmp 21) (.tmp 22) 3, none⟩,
    ⟨some 6, .assign (.tmp 23), none⟩]) .ret) .skip)) (.seq (.reg [⟨some 7, .assign (.const (.int .i64 0)), none⟩,
    ⟨some 8, .assign (.const (.int .i64 1)), none⟩]) (.seq (.block 0 (.loop (.seq (.seq (.reg [⟨some 24, .move (.tmp 1), none⟩,
    ⟨some 25, .binOp .gtr 3 (.tmp 24) (.const (.int .i64 0)) 3, none⟩,
    ⟨some 26, .move (.tmp 25), none⟩,
    ⟨some 27, .move (.tmp 2), some (26, false)⟩,
    ⟨some 28, .binOp .gtr 3 (.tmp 27) (.const (.int .i64 0)) 3, some (26, false)⟩,
    ⟨some 29, .pick (.tmp 26) (.const (.bool true)) (.tmp 28), none⟩]) (.cond (.tmp 29) .skip (.exit 0))) (.block 1 (.seq (.draw [(0, [], ⟨some 30, .move (.tmp 7), none⟩),
    (1, [], ⟨some 31, .move (.tmp 1), none⟩),
    (2, [], ⟨some 32, .move (.tmp 0), none⟩),
    (3, [], ⟨some 33, .nilCheck (.tmp 32), none⟩),
    (4, [], ⟨some 34, .fieldAddr 101 (.tmp 33) 0, none⟩),
    (5, [], ⟨some 35, .fieldAddr 24 (.tmp 34) 0, none⟩),
    (6, [], ⟨some 36, .load 3 (.tmp 35), none⟩),
    (7, [], ⟨some 37, .binOp .rem 3 (.tmp 31) (.tmp 36) 3, none⟩),
    (8, [], ⟨some 38, .move (.tmp 2), none⟩),
    (9, [], ⟨some 39, .move (.tmp 0), none⟩),
    (10, [], ⟨some 40, .nilCheck (.tmp 39), none⟩),
    (11, [], ⟨some 41, .fieldAddr 101 (.tmp 40) 0, none⟩),
    (12, [], ⟨some 42, .fieldAddr 24 (.tmp 41) 0, none⟩),
    (13, [], ⟨some 43, .load 3 (.tmp 42), none⟩),
    (14, [], ⟨some 44, .binOp .rem 3 (.tmp 38) (.tmp 43) 3, none⟩),
    (15, [], ⟨some 45, .binOp .add 3 (.tmp 37) (.tmp 44) 3, none⟩),
    (16, [], ⟨some 46, .move (.tmp 0), none⟩),
    (17, [], ⟨some 47, .nilCheck (.tmp 46), none⟩),
    (18, [], ⟨some 48, .fieldAddr 101 (.tmp 47) 0, none⟩),
    (19, [], ⟨some 49, .fieldAddr 24 (.tmp 48) 0, none⟩),
    (20, [], ⟨some 50, .load 3 (.tmp 49), none⟩),
    (21, [], ⟨some 51, .binOp .rem 3 (.tmp 45) (.tmp 50) 3, none⟩),
    (22, [], ⟨some 52, .move (.tmp 8), none⟩),
    (23, [], ⟨some 53, .binOp .mul 3 (.tmp 51) (.tmp 52) 3, none⟩),
    (24, [], ⟨some 54, .binOp .add 3 (.tmp 30) (.tmp 53) 3, none⟩),
    (25, [], ⟨some 7, .assign (.tmp 54), none⟩)]) (.seq (.reg [⟨some 55, .move (.tmp 8), none⟩,
    ⟨some 56, .move (.tmp 0), none⟩,
    ⟨some 57, .nilCheck (.tmp 56), none⟩,
    ⟨some 58, .fieldAddr 101 (.tmp 57) 0, none⟩,
    ⟨some 59, .fieldAddr 24 (.tmp 58) 0, none⟩,
    ⟨some 60, .load 3 (.tmp 59), none⟩,
    ⟨some 61, .binOp .mul 3 (.tmp 55) (.tmp 60) 3, none⟩,
    ⟨some 8, .assign (.tmp 61), none⟩]) (.seq (.reg [⟨some 62, .move (.tmp 1), none⟩,
    ⟨some 63, .move (.tmp 0), none⟩,
    ⟨some 64, .nilCheck (.tmp 63), none⟩,
    ⟨some 65, .fieldAddr 101 (.tmp 64) 0, none⟩,
    ⟨some 66, .fieldAddr 24 (.tmp 65) 0, none⟩,
    ⟨some 67, .load 3 (.tmp 66), none⟩,
    ⟨some 68, .binOp .quo 3 (.tmp 62) (.tmp 67) 3, none⟩,
    ⟨some 1, .assign (.tmp 68), none⟩]) (.reg [⟨some 69, .move (.tmp 2), none⟩,
    ⟨some 70, .move (.tmp 0), none⟩,
    ⟨some 71, .nilCheck (.tmp 70), none⟩,
    ⟨some 72, .fieldAddr 101 (.tmp 71) 0, none⟩,
    ⟨some 73, .fieldAddr 24 (.tmp 72) 0, none⟩,
    ⟨some 74, .load 3 (.tmp 73), none⟩,
    ⟨some 75, .binOp .quo 3 (.tmp 69) (.tmp 74) 3, none⟩,
    ⟨some 2, .assign (.tmp 75), none⟩])))))))) (.seq (.reg [⟨some 76, .move (.tmp 7), none⟩,
    ⟨some 6, .assign (.tmp 76), none⟩]) .ret)))))
theorem at112 {args : List AV} {H : AH} {Q : AV → AH → Prop} (hl : args.length ≤ 77) (h : swp Try.prog s112 (fin Try.prog [.tmp 6] Q) (env0 args) H) : AC Try.prog 112 args H Q :=
  AC.of (pl112) Try.func112 rfl (by kernel_rfl) mixed (by kernel_rfl) (by kernel_rfl) rfl hl h
/-! ### function 113: (*codewright/field.GF).Sub -/
def s113 : SC :=
  .seq (.reg [⟨some 6, .assign (.const (.int .i64 0)), none⟩]) (.seq (.reg [⟨some 7, .move (.tmp 0), none⟩,
    ⟨some 8, .move (.tmp 1), none⟩,
    ⟨some 9, .move (.tmp 0), none⟩,
    ⟨some 10, .move (.tmp 2), none⟩,
    ⟨some 11, .call { callee := .value (.func 59), args := #[.tmp 9, .tmp 10], argTypes := #[75, 3] }, none⟩,
    ⟨some 12, .call { callee := .value (.func 112), args := #[.tmp 7, .tmp 8, .tmp 11], argTypes := #[75, 3, 3] }, none⟩,
    ⟨some 6, .assign (.tmp 12), none⟩]) .ret)
theorem at113 {args : List AV} {H : AH} {Q : AV → AH → Prop} (hl : args.length ≤ 13) (h : swp Try.prog s113 (fin Try.prog [.tmp 6] Q) (env0 args) H) : AC Try.prog 113 args H Q :=
  AC.of (fun _ => []) Try.func113 rfl (by kernel_rfl) mixed (by kernel_rfl) (by kernel_rfl) rfl hl h
/-! ### function 114: slices.IndexFunc[[]int,int] -/
def s114 : SC :=
  .seq (.reg [⟨some 4, .assign (.const (.int .i64 0)), none⟩]) (.seq (.seq (.reg [⟨some 6, .move (.tmp 0), none⟩,
    ⟨some 7, .call { callee := .builtin .len, args := #[.tmp 6], argTypes := #[22] }, none⟩,
    ⟨some 8, .move (.const (.int .i64 0)), none⟩]) (.block 0 (.loop (.seq (.reg [⟨some 9, .binOp .lss 3 (.tmp 8) (.tmp 7) 3, none⟩]) (.seq (.cond (.tmp 9) .skip (.exit 0)) (.seq (.block 1 (.seq (.reg [⟨some 10, .move (.tmp 8), none⟩,
    ⟨some 5, .assign (.tmp 10), none⟩]) (.seq (.reg [⟨some 11, .move (.tmp 1), none⟩,
    ⟨some 12, .move (.tmp 0), none⟩,
    ⟨some 13, .move (.tmp 5), none⟩,
    ⟨some 14, .indexAddr 22 (.tmp 12) (.tmp 13), none⟩,
    ⟨some 15, .load 3 (.tmp 14), none⟩,
    ⟨some 16, .call { callee := .value (.tmp 11), args := #[.tmp 15], argTypes := #[3] }, none⟩]) (.cond (.tmp 16) (.seq (.reg [⟨some 17, .move (.tmp 5), none⟩,
    ⟨some 4, .assign (.tmp 17), none⟩]) .ret) .skip)))) (.reg [⟨some 18, .binOp .add 3 (.tmp 8) (.const (.int .i64 1)) 3, none⟩,
    ⟨some 8, .move (.tmp 18), none⟩]))))))) (.seq (.reg [⟨some 4, .assign (.const (.int .i64 (-1))), none⟩]) .ret))
theorem at114 {args : List AV} {H : AH} {Q : AV → AH → Prop} (hl : args.length ≤ 19) (h : swp Try.prog s114 (fin Try.prog [.tmp 4] Q) (env0 args) H) : AC Try.prog 114 args H Q :=
  AC.of (fun _ => []) Try.func114 rfl (by kernel_rfl) mixed (by kernel_rfl) (by kernel_rfl) rfl hl h
/-! ### function 115: (*codewright/infoset.basis).add$1 -/
def s115 : SC :=
  .seq (.reg [⟨some 2, .assign (.const (.bool false)), none⟩]) (.seq (.reg [⟨some 3, .move (.tmp 0), none⟩,
    ⟨some 4, .binOp .neq 3 (.tmp 3) (.const (.int .i64 0)) 3, none⟩,
    ⟨some 2, .assign (.tmp 4), none⟩]) .ret)
theorem at115 {args : List AV} {H : AH} {Q : AV → AH → Prop} (hl : args.length ≤ 5) (h : swp Try.prog s115 (fin Try.prog [.tmp 2] Q) (env0 args) H) : AC Try.prog 115 args H Q :=
  AC.of (fun _ => []) Try.func115 rfl (by kernel_rfl) mixed (by kernel_rfl) (by kernel_rfl) rfl hl h
/-! ### function 116: codewright/codewrightref04.In -/
def s116 : SC :=
  .seq (.reg [⟨some 2, .box 24 (.tmp 0), none⟩,
    ⟨some 4, .assign (.const (.int .i64 0)), none⟩]) (.seq (.seq (.reg [⟨some 5, .load 24 (.tmp 2), none⟩,
    ⟨some 6, .move (.tmp 1), none⟩,
    ⟨some 7, .call { callee := .value (.func 88), args := #[.tmp 5, .tmp 6], argTypes := #[24, 3] }, none⟩]) (.cond (.tmp 7) (.seq (.reg [⟨some 8, .move (.tmp 1), none⟩,
    ⟨some 4, .assign (.tmp 8), none⟩]) .ret) .skip)) (.seq (.reg [⟨some 4, .assign (.const (.int .i64 0)), none⟩]) .ret))
theorem at116 {args : List AV} {H : AH} {Q : AV → AH → Prop} (hl : args.length ≤ 9) (h : swp Try.prog s116 (fin Try.prog [.tmp 4] Q) (env0 args) H) : AC Try.prog 116 args H Q :=
  AC.of (fun _ => []) Try.func116 rfl (by kernel_rfl) mixed (by kernel_rfl) (by kernel_rfl) rfl hl h
end Go.Proofs.Yteijojnahpeglaa.AM
/-! Heaps that grow; slices of ints; rules for proofs that use the runner. -/
namespace Go.Proofs.Yteijojnahpeglaa.AM
open Go Go.RowKit
set_option linter.unusedVariables false
set_option linter.unusedSimpArgs false

/-- Nothing that was there has changed. -/
def Ext (H H' : AH) : Prop := ∀ b, H b ≠ .free → H' b = H b
theorem Ext.refl (H : AH) : Ext H H := fun _ _ => rfl
theorem Ext.trans {H H' H'' : AH} (h : Ext H H') (h' : Ext H' H'') : Ext H H'' := fun b hb => by
  have h1 := h b hb
  rw [h' b (by rw [h1]; exact hb), h1]
theorem Ext.rw {H H' : AH} (h : Ext H H') {b : Nat} {xs : List AV} (hb : H b = .rw xs) : H' b = .rw xs := by
  rw [h b (by rw [hb]; exact fun q => by cases q), hb]
theorem Ext.new {H : AH} {b : Nat} (hb : H b = .free) (s : Slot) : Ext H (H.upd b s) := fun c hc => by
  unfold AH.upd
  rw [if_neg (fun q => hc (by rw [q]; exact hb))]
theorem Ext.upd {H H' : AH} (h : Ext H H') {b : Nat} (hb : H b = .free) (s : Slot) : Ext H (H'.upd b s) := fun c hc => by
  unfold AH.upd
  rw [if_neg (fun q => hc (by rw [q]; exact hb))]
  exact h c hc
theorem Ext.free {H H' : AH} (h : Ext H H') {b : Nat} (hb : H' b = .free) : H b = .free := by
  apply Classical.byContradiction
  intro hc
  have := h b hc
  rw [hb] at this
  exact hc this.symm
theorem Ext.cell {H H' : AH} (h : Ext H H') {b o : Nat} {v : AV} (hc : H.cell b o = some v) : H'.cell b o = some v := by
  have : H b ≠ .free := fun q => by simp [AH.cell, q] at hc
  simp only [AH.cell, h b this]
  exact hc

theorem ints_length (xs : List Int) : (ints xs).length = xs.length := by simp [ints]
theorem ints_get {xs : List Int} {i : Nat} (h : i < xs.length) : (ints xs)[i]? = some (.int .i64 (xs.getD i 0)) := by
  simp [ints, h, List.getD_eq_getElem?_getD]
theorem ints_set {xs : List Int} {i : Nat} {v : Int} : (ints xs).set i (.int .i64 v) = ints (xs.set i v) := by
  simp [ints, List.map_set]
theorem ints_rep {n : Nat} {v : Int} : List.replicate n (AV.int .i64 v) = ints (List.replicate n v) := by
  simp [ints]
theorem ints_app {xs ys : List Int} : ints xs ++ ints ys = ints (xs ++ ys) := by simp [ints]
theorem ints_one {x : Int} : [AV.int .i64 x] = ints [x] := rfl
theorem ints_nil : ([] : List AV) = ints [] := rfl

def slB : AV → Nat
  | .sl b _ _ _ => b
  | _ => 0
def slO : AV → Nat
  | .sl _ o _ _ => o
  | _ => 0

/-- v is a slice whose elements, of one cell each, are us. -/
def Sl (H : AH) (v : AV) (us : List AV) : Prop :=
  (v = .nils ∧ us = []) ∨ ∃ b o c, v = .sl b o us.length c ∧ ∀ i u, us[i]? = some u → H.cell b (o + i) = some u
abbrev Ints (H : AH) (v : AV) (xs : List Int) : Prop := Sl H v (ints xs)

theorem Sl.ext {H H' : AH} {v : AV} {us : List AV} (h : Sl H v us) (hE : Ext H H') : Sl H' v us := by
  rcases h with h | ⟨b, o, c, h1, h2⟩
  · exact .inl h
  · exact .inr ⟨b, o, c, h1, fun i u hu => hE.cell (h2 i u hu)⟩
theorem Sl.own {H : AH} {b n : Nat} {c : Cap} {us : List AV} (h : H b = .rw us) (hn : n = us.length) : Sl H (.sl b 0 n c) us := by
  subst hn
  refine .inr ⟨b, 0, c, rfl, fun i u hu => ?_⟩
  simp only [AH.cell, h, Nat.zero_add]
  exact hu

theorem Sl.take {H : AH} {b n : Nat} {c : Cap} {us : List AV} (h : H b = .rw us) (hn : n ≤ us.length) : Sl H (.sl b 0 n c) (us.take n) := by
  refine .inr ⟨b, 0, c, by rw [List.length_take, Nat.min_eq_left hn], fun i u hu => ?_⟩
  simp only [AH.cell, h, Nat.zero_add]
  rw [List.getElem?_take] at hu
  split at hu
  · exact hu
  · cases hu

section
variable {P : Program} {K : Kt} {Q : APost} {e : Env} {H : AH} {d : Option Nat} {r : Rst} {k k' : IntKind} {j : Int} {ds : List Nat} {t i : Nat} {v : AV} {us : List AV} {xs : List Int}

theorem Sl.len (h : Sl H v us) : kLen P (some t) r e H K d v = kPut P r e H K d (.int .i64 us.length) := by
  rcases h with ⟨rfl, rfl⟩ | ⟨b, o, c, rfl, -⟩ <;> simp [kLen, kPut]
theorem Sl.idx (h : Sl H v us) (h0 : 0 ≤ j) (h1 : j < us.length) : kIdx P (some 1) r e H K d v (.int k j) = kPut P r e H K d (.ptr (slB v) (slO v + j.toNat)) := by
  rcases h with ⟨rfl, rfl⟩ | ⟨b, o, c, rfl, -⟩
  · simp at h1; omega
  · simp [kIdx, kPut, h0, h1, slB, slO]
theorem Sl.at (h : Sl H v us) (h1 : i < us.length) : H.cell (slB v) (slO v + i) = some (us.getD i .junk) := by
  rcases h with ⟨rfl, rfl⟩ | ⟨b, o, c, rfl, h2⟩
  · simp at h1
  · exact h2 i _ (by simp [h1, List.getD_eq_getElem?_getD])
/-- What the runner wants to know of a slice of ints. -/
theorem Sl.ints (h : Ints H v xs) : (∀ {P : Program} {r : Rst} {e : Env} {H : AH} {K : Kt} {d : Option Nat} {t : Nat}, kLen P (some t) r e H K d v = kPut P r e H K d (.int .i64 xs.length)) ∧
    (∀ {P : Program} {r : Rst} {e : Env} {H : AH} {K : Kt} {d : Option Nat} {k : IntKind} {j : Int}, 0 ≤ j → j < xs.length → kIdx P (some 1) r e H K d v (.int k j) = kPut P r e H K d (.ptr (slB v) (slO v + j.toNat))) ∧
    (∀ {i : Nat}, i < xs.length → slotCell (H (slB v)) (slO v + i) = some (.int .i64 (xs.getD i 0))) := by
  have hl := ints_length xs
  refine ⟨?_, ?_, ?_⟩
  · intro P r e H2 K d t
    rcases h with ⟨rfl, h⟩ | ⟨b, o, c, rfl, -⟩
    · rw [← hl, h]; simp [kLen, kPut]
    · rw [← hl]; simp [kLen, kPut]
  · intro P r e H2 K d k j h0 h1
    rw [← hl] at h1
    rcases h with ⟨rfl, h⟩ | ⟨b, o, c, rfl, -⟩
    · rw [h] at h1; simp at h1; omega
    · simp [kIdx, kPut, h0, h1, slB, slO]
  · intro i hi
    rw [← u_cell, h.at (by rw [hl]; exact hi), List.getD_eq_getElem?_getD, u_getI hi]
    rfl
theorem kNew_intro {m : Nat → AV} {cs : List AV} (h : ∀ b H', H b = .free → Ext H H' → H' b = .rw cs → go P r (e.put d (m b)) H' K) : kNew P m r e H K d cs :=
  fun b hb => h b _ hb (Ext.new hb _) (by simp [AH.upd])
theorem kIf_intro {p : Prop} [Decidable p] {x y : SC} (h1 : p → swp P x Q e H) (h2 : ¬p → swp P y Q e H) : kIf P x y Q e H (.bool (decide p)) := by
  by_cases h : p <;> simp [kIf, h, h1, h2]
theorem kG_introT {p : Prop} [Decidable p] {rn : Rst} {g : Nat} (h1 : p → go P r (e.put (some g) (.bool true)) H K) (h2 : ¬p → go P rn ((e.put (some g) (.bool false)).put d (.tup [])) H K) : kG P true g rn r e H K d (.bool (decide p)) := by
  by_cases h : p <;> simp [kG, h, h1, h2]
theorem kG_introF {p : Prop} [Decidable p] {rn : Rst} {g : Nat} (h1 : ¬p → go P r (e.put (some g) (.bool false)) H K) (h2 : p → go P rn ((e.put (some g) (.bool true)).put d (.tup [])) H K) : kG P false g rn r e H K d (.bool (decide p)) := by
  by_cases h : p <;> simp [kG, h, h1, h2]
theorem sGuard_mono {g : Option (Nat × Bool)} {y y' n n' : Env → Prop} (hy : ∀ e, y e → y' e) (hn : ∀ e, n e → n' e) (h : sGuard g e y n) : sGuard g e y' n' := by
  cases g with
  | none => exact hy _ h
  | some gw =>
    obtain ⟨d, w⟩ := gw
    simp only [sGuard] at h ⊢
    cases hd : e d <;> rw [hd] at h <;> dsimp only at h ⊢
    case bool b =>
      split
      · rename_i hh; rw [if_pos hh] at h; exact hy _ h
      · rename_i hh; rw [if_neg hh] at h; exact hn _ h
    all_goals exact hn _ h
theorem sops_mono {K K' : Kt} (hk : ∀ e H, K e H → K' e H) : ∀ (l : List SO) (e : Env) (H : AH), sops P l e H K → sops P l e H K'
  | [], e, H, h => hk _ _ h
  | o :: l, e, H, h => sGuard_mono (fun e h => aop_mono (fun v H' h => sops_mono hk l _ _ h) h) (fun e h => sops_mono hk l _ _ h) h
theorem sDraw_mono {K K' : Kt} (hk : ∀ e H, K e H → K' e H) : ∀ (l : List (Nat × List Nat × SO)) (σ : Seen) (e : Env) (H : AH), sDraw P l σ e H K → sDraw P l σ e H K'
  | [], σ, e, H, h => hk _ _ h
  | o :: l, σ, e, H, h => by
    simp only [sDraw] at h ⊢
    refine sGuard_mono (fun e h => ?_) (fun e h => sDraw_mono hk l _ _ _ h) h
    split
    · rename_i hw
      rw [if_pos hw] at h
      exact aop_mono (fun v H' h => ⟨h.1, sDraw_mono hk l _ _ _ h.2⟩) h
    · rename_i hw
      rw [if_neg hw] at h
      exact aop_mono (fun v H' h => sDraw_mono hk l _ _ _ h) h
theorem swp_mono : ∀ (c : SC) {Q Q' : APost} {e : Env} {H : AH}, (∀ x e H, Q x e H → Q' x e H) → swp P c Q e H → swp P c Q' e H := by
  intro c
  induction c with
  | skip => exact fun hq h => hq _ _ _ h
  | exit id => exact fun hq h => hq _ _ _ h
  | ret => exact fun hq h => hq _ _ _ h
  | bad => exact fun hq h => h
  | reg l => exact fun hq h => sops_mono (fun e H h => hq _ _ _ h) _ _ _ h
  | draw l => exact fun hq h => sDraw_mono (fun e H h => hq _ _ _ h) _ _ _ _ h
  | seq x y ihx ihy =>
    intro Q Q' e H hq h
    refine ihx (fun X e H hh => ?_) h
    cases X with
    | normal => exact ihy hq hh
    | exit id => exact hq _ _ _ hh
    | ret => exact hq _ _ _ hh
  | cond c x y ihx ihy =>
    intro Q Q' e H hq h
    simp only [swp] at h ⊢
    split at h
    · split
      · rename_i hh; rw [if_pos hh] at h; exact ihx hq h
      · rename_i hh; rw [if_neg hh] at h; exact ihy hq h
    · exact h.elim
  | block id c ih =>
    intro Q Q' e H hq h
    refine ih (fun X e H hh => ?_) h
    cases X with
    | normal => exact hq _ _ _ hh
    | exit i =>
      simp only [AX.inBlock] at hh ⊢
      split
      · rename_i hi; rw [if_pos hi] at hh; exact hq _ _ _ hh
      · rename_i hi; rw [if_neg hi] at hh; exact hq _ _ _ hh
    | ret => exact hq _ _ _ hh
  | loop c ih =>
    intro Q Q' e H hq ⟨I, μ, h0, h1⟩
    refine ⟨I, μ, h0, fun e H hI => ih (fun X e' H' hh => ?_) (h1 e H hI)⟩
    cases X with
    | normal => exact hh
    | exit id => exact hq _ _ _ hh
    | ret => exact hq _ _ _ hh
theorem least_of (p : Nat → Prop) : ∀ n, p n → ∃ m, p m ∧ ∀ q, p q → m ≤ q := by
  intro n
  induction n using Nat.strongRecOn with
  | ind n ih =>
    intro hn
    by_cases h : ∃ m, m < n ∧ p m
    · obtain ⟨m, h1, h2⟩ := h
      exact ih m h1 h2
    · exact ⟨n, hn, fun q hq => Nat.not_lt.mp fun hlt => h ⟨q, hlt, hq⟩⟩
/-- A loop: its states, what is less from round to round, its first state. -/
theorem sw_loop {c : SC} {σ : Type} (st : σ → Env → AH → Prop) (μ : σ → Nat) (s0 : σ) (h0 : st s0 e H) (h : ∀ s e' H', st s e' H' → swp P c (AX.then (kInv st μ s) Q) e' H') : swp P (.loop c) Q e H := by
  have hm : ∀ e H, ∃ n, (∃ s, st s e H) → (∃ s, st s e H ∧ μ s = n) ∧ ∀ s, st s e H → n ≤ μ s := by
    intro e H
    by_cases hs : ∃ s, st s e H
    · obtain ⟨s, hs⟩ := hs
      obtain ⟨m, ⟨s', h1, h2⟩, h3⟩ := least_of (fun n => ∃ s, st s e H ∧ μ s = n) (μ s) ⟨s, hs, rfl⟩
      exact ⟨m, fun _ => ⟨⟨s', h1, h2⟩, fun q hq => h3 _ ⟨q, hq, rfl⟩⟩⟩
    · exact ⟨0, fun q => (hs q).elim⟩
  refine ⟨fun e H => ∃ s, st s e H, fun e H => Classical.choose (hm e H), ⟨s0, h0⟩, fun e' H' hs => ?_⟩
  obtain ⟨⟨s, h1, h2⟩, h3⟩ := Classical.choose_spec (hm e' H') hs
  refine swp_mono c (fun x e2 H2 hx => ?_) (h s e' H' h1)
  cases x with
  | normal =>
    obtain ⟨s', h4, h5⟩ := hx
    refine ⟨⟨s', h4⟩, ?_⟩
    have := (Classical.choose_spec (hm e2 H2) ⟨s', h4⟩).2 s' h4
    show Classical.choose (hm e2 H2) < Classical.choose (hm e' H')
    omega
  | exit i => exact hx
  | ret => exact hx
end
end Go.Proofs.Yteijojnahpeglaa.AM
/-! Slices of the call's own, which grow by append. -/
namespace Go.Proofs.Yteijojnahpeglaa.AM
open Go Go.RowKit
set_option linter.unusedVariables false
set_option linter.unusedSimpArgs false

/-- Rounds 0 .. n-1. -/
def upto {α : Type} (f : Nat → α → α) : Nat → α → α
  | 0, a => a
  | n + 1, a => f n (upto f n a)
theorem upto_zero {α : Type} (f : Nat → α → α) (a : α) : upto f 0 a = a := rfl
theorem upto_succ {α : Type} (f : Nat → α → α) (n : Nat) (a : α) : upto f (n + 1) a = f n (upto f n a) := rfl

/-- A slice made since H0: nothing, or a whole block. -/
def Own (H0 H : AH) (v : AV) (us : List AV) : Prop := (v = .nils ∧ us = []) ∨ ∃ b, v = .sl b 0 us.length (.own 1) ∧ H b = .rw us ∧ H0 b = .free
/-- v does not stand in block c. -/
def Off (v : AV) (c : Nat) : Prop := ∀ o n cp, v ≠ .sl c o n cp
theorem Own.mk {H0 H : AH} {b n : Nat} {us : List AV} (h : H b = .rw us) (h0 : H0 b = .free) (hn : n = us.length) : Own H0 H (.sl b 0 n (.own 1)) us := by
  subst hn; exact .inr ⟨b, rfl, h, h0⟩
theorem Own.sl {H0 H : AH} {v : AV} {us : List AV} (h : Own H0 H v us) : Sl H v us := by
  rcases h with ⟨rfl, rfl⟩ | ⟨b, rfl, h, -⟩
  · exact .inl ⟨rfl, rfl⟩
  · exact Sl.own h rfl
theorem Own.ext {H0 H H' : AH} {v : AV} {us : List AV} (h : Own H0 H v us) (hE : Ext H H') : Own H0 H' v us := by
  rcases h with h | ⟨b, rfl, h, h0⟩
  · exact .inl h
  · exact .inr ⟨b, rfl, hE.rw h, h0⟩
theorem Own.old {H0 H1 H : AH} {v : AV} {us : List AV} (h : Own H1 H v us) (hE : Ext H0 H1) : Own H0 H v us := by
  rcases h with h | ⟨b, rfl, h, h0⟩
  · exact .inl h
  · exact .inr ⟨b, rfl, h, hE.free h0⟩
theorem Own.nils {H0 H : AH} : Own H0 H .nils [] := .inl ⟨rfl, rfl⟩

theorem Own.block {H0 H : AH} {v : AV} {us : List AV} (h : Own H0 H v us) (hn : us ≠ []) : ∃ b, v = .sl b 0 us.length (.own 1) ∧ H b = .rw us ∧ H0 b = .free :=
  h.elim (fun q => (hn q.2).elim) id

theorem cellsAt_of {H : AH} {b : Nat} {us : List AV} : ∀ (n o j : Nat), (∀ i u, us[i]? = some u → H.cell b (o + i) = some u) → j + n = us.length → H.cellsAt b (o + j) n = some (us.drop j)
  | 0, o, j, h, hn => by simp [AH.cellsAt, List.drop_of_length_le (show us.length ≤ j by omega)]
  | n + 1, o, j, h, hn => by
    have hj : j < us.length := by omega
    rw [AH.cellsAt, h j us[j] (by simp [hj])]
    have := cellsAt_of n o (j + 1) h (by omega)
    rw [← Nat.add_assoc] at this
    simp only [this, Option.map_some]
    rw [← List.drop_eq_getElem_cons hj]
theorem Sl.cells {H : AH} {v : AV} {us : List AV} (h : Sl H v us) : slCells H 1 v = some us ∧ slLen v = us.length := by
  rcases h with ⟨rfl, rfl⟩ | ⟨b, o, c, rfl, h⟩
  · exact ⟨rfl, rfl⟩
  · refine ⟨?_, rfl⟩
    simp only [slCells, Nat.mul_one]
    have := cellsAt_of us.length o 0 h (by omega)
    simpa using this

section
variable {P : Program} {K : Kt} {Q : APost} {e : Env} {H H0 : AH} {d : Option Nat} {r : Rst} {k k' : IntKind} {j : Int} {ds : List Nat} {t i : Nat} {x y : AV} {us zs : List AV}

/-- append: to what is the call's own. -/
theorem kApp_own {by_ : Nat} {z : AV} (hx : Own H0 H x zs) (hE : Ext H0 H) (hy : Sl H y us) (hu : ∀ u, u ∈ us → u.one = true) (hl : (zs.length + us.length) * by_ ≤ 140737488355328) (hl' : zs.length + us.length ≤ 140737488355328)
    (h : ∀ v H', Ext H0 H' → Own H0 H' v (zs ++ us) → (∀ c ws, H c = .rw ws → Off x c → H' c = .rw ws ∧ Off v c) → kRet P ds r e H' K d v) : kApp P ds (some 1) (some by_) (some [z]) r e H K d x y := by
  obtain ⟨hc, hn⟩ := hy.cells
  refine ⟨1, by_, [z], rfl, rfl, rfl, rfl, us, hc, hu, ?_⟩
  rcases hx with ⟨rfl, rfl⟩ | ⟨b, rfl, hb, h0⟩
  · rw [hn]
    refine ⟨hl, hl', by decide, fun hz => ?_, fun hz b hb => ?_⟩
    · have : us = [] := List.length_eq_zero_iff.mp hz
      subst this
      exact h _ _ hE Own.nils fun c ws hc _ => ⟨hc, fun o n cp q => by cases q⟩
    · refine h _ _ (hE.upd (hE.free hb) _) (Own.mk (by simp [AH.upd]) (hE.free hb) rfl) fun c ws hc _ => ?_
      have hne : c ≠ b := fun q => by rw [q, hb] at hc; cases hc
      exact ⟨by simp [AH.upd, hne, hc], fun o n cp q => by cases q; exact hne rfl⟩
  · rw [hn]
    refine ⟨hl, hl', by decide, rfl, zs, hb, rfl, by simp, fun b' hb' => ?_⟩
    have h0' : H0 b' = .free := hb'.elim (fun q => by rw [q]; exact h0) fun q => hE.free q
    refine h _ _ ((hE.upd h0 _).upd h0' _) (Own.mk (by simp [AH.upd]) h0' (by simp)) fun c ws hc hoff => ?_
    have h1 : c ≠ b := fun q => hoff 0 zs.length (.own 1) (by rw [q])
    have h2 : c ≠ b' := fun q => hb'.elim (fun q' => h1 (q.trans q')) fun q' => by rw [q, q'] at hc; cases hc
    exact ⟨by simp [AH.upd, h1, h2, hc], fun o n cp q => by cases q; exact h2 rfl⟩
end
theorem mul_bd {a b A B : Int} (h1 : 0 ≤ a) (h2 : a ≤ A) (h3 : 0 ≤ b) (h4 : b ≤ B) : 0 ≤ a * b ∧ a * b ≤ A * B :=
  ⟨Int.mul_nonneg h1 h3, Int.mul_le_mul h2 h4 h3 (Int.le_trans h1 h2)⟩
/-- All entries are from 0 to p-1. -/
def Rng (p : Int) (xs : List Int) : Prop := ∀ i, 0 ≤ xs.getD i 0 ∧ xs.getD i 0 < p
theorem getD_set (xs : List Int) (i j : Nat) (v : Int) : (xs.set i v).getD j 0 = if j = i ∧ i < xs.length then v else xs.getD j 0 := by
  simp only [List.getD_eq_getElem?_getD, List.getElem?_set]
  by_cases h : i = j
  · subst h
    by_cases h2 : i < xs.length <;> simp [h2]
  · simp [h, Ne.symm h]
theorem Rng.set {p : Int} {xs : List Int} (h : Rng p xs) {v : Int} (h0 : 0 ≤ v) (h1 : v < p) (i : Nat) : Rng p (xs.set i v) := by
  intro j
  rw [getD_set]
  split
  · exact ⟨h0, h1⟩
  · exact h j
theorem Rng.rep {p : Int} (hp : 0 < p) (n : Nat) : Rng p (List.replicate n 0) := by
  intro i
  simp only [List.getD_eq_getElem?_getD, List.getElem?_replicate]
  split <;> simp [hp]
theorem Rng.app {p : Int} {xs ys : List Int} (h : Rng p xs) (h' : Rng p ys) : Rng p (xs ++ ys) := by
  intro i
  simp only [List.getD_eq_getElem?_getD, List.getElem?_append]
  split
  · simpa [List.getD_eq_getElem?_getD] using h i
  · simpa [List.getD_eq_getElem?_getD] using h' (i - xs.length)
theorem Rng.one {p v : Int} (h0 : 0 ≤ v) (h1 : v < p) : Rng p [v] := by
  intro i
  cases i with
  | zero => exact ⟨h0, h1⟩
  | succ i => simpa using (show 0 < p by omega)
theorem ints_ones {xs : List Int} : ∀ u, u ∈ ints xs → u.one = true := by
  intro u hu
  simp only [ints, List.mem_map] at hu
  obtain ⟨a, -, rfl⟩ := hu
  rfl
end Go.Proofs.Yteijojnahpeglaa.AM
/-! The reference's field, first part: contracts. -/
namespace Go.Proofs.Yteijojnahpeglaa.AM
open Go Go.RowKit
set_option linter.unusedVariables false
set_option linter.unusedSimpArgs false
set_option maxRecDepth 20000
/-- the n lowest digits -/
def digs (p : Int) : Nat → Int → List Int
  | 0, _ => []
  | n + 1, x => x % p :: digs p n (x / p)
theorem c_digits {x p n : Int} {H : AH} {Q : AV → AH → Prop} (hx : 0 ≤ x) (hx' : x ≤ 9000000000000000000) (hp : 0 < p) (hn : 0 ≤ n) (hn' : n ≤ 1000)
    (hQ : ∀ b H', H b = .free → Ext H H' → H' b = .rw (ints (digs p n.toNat x)) → Q (.sl b 0 n.toNat (.own 1)) H') :
    AC Try.prog 69 [.int .i64 x, .int .i64 p, .int .i64 n] H Q := by
  refine at69 (by simp) ?_
  simp (disch := first | assumption | omega) only [↓RP, RQ, TY, loadT, s69, reduceIte, Nat.reduceEqDiff, Nat.reduceAdd]
  refine kNew_intro fun b H1 hb hE hH1 => ?_
  simp (disch := first | assumption | omega) only [↓RP, RQ, TY, loadT, reduceIte, Nat.reduceEqDiff, Nat.reduceAdd]
  refine sw_loop (σ := Nat × Int × List Int) (fun s e H' => e 8 = .int .i64 s.1 ∧ e 7 = .sl b 0 n.toNat (.own 1) ∧ e 2 = .int .i64 n ∧ e 1 = .int .i64 p ∧ e 0 = .int .i64 s.2.1 ∧ s.1 ≤ n.toNat ∧ 0 ≤ s.2.1 ∧ s.2.1 ≤ x ∧ Ext H H' ∧ s.2.2.length = n.toNat ∧
    H' b = .rw (ints s.2.2) ∧ s.2.2.take s.1 ++ digs p (n.toNat - s.1) s.2.1 = digs p n.toNat x) (fun s => n.toNat - s.1) (0, x, List.replicate n.toNat 0) ?_ ?_
  · simp (disch := first | assumption | omega) only [↓RP, RQ, TY, loadT, reduceIte, Nat.reduceEqDiff, Nat.reduceAdd, hH1]
    simp [hx, hE, ints]
  · rintro ⟨i, y, L⟩ e' H' ⟨e8, e7, e2, e1, e0, hi, hy, hy', hE', hL, hb', hd⟩
    dsimp only at *
    by_cases hlt : (i : Int) < n
    · have h1 := Int.ediv_nonneg hy (Int.le_of_lt hp)
      have h2 := Int.ediv_le_self p hy
      simp (disch := first | assumption | omega) only [↓RP, RQ, TY, loadT, reduceIte, Nat.reduceEqDiff, Nat.reduceAdd, e8, e7, e2, e1, e0, hlt, decide_true, hb']
      refine ⟨(i + 1, y / p, L.set i (y % p)), ?_, ?_⟩
      · simp (disch := first | assumption | omega) only [↓RP, RQ, TY, loadT, reduceIte, Nat.reduceEqDiff, Nat.reduceAdd, e8, e7, e2, e1, e0]
        refine ⟨by omega, h1, by omega, hE'.upd hb _, by simpa using hL, ?_⟩
        rw [← hd, show n.toNat - i = (n.toNat - (i + 1)) + 1 by omega, digs]
        rw [List.take_succ_eq_append_getElem (by simp; omega)]
        simp [List.take_set_of_le]
      · show n.toNat - (i + 1) < n.toNat - i
        omega
    · simp (disch := first | assumption | omega) only [↓RP, RQ, TY, loadT, reduceIte, Nat.reduceEqDiff, Nat.reduceAdd, e8, e7, e2, e1, e0, hlt, decide_false]
      refine hQ b H' hb hE' ?_
      rw [hb', ← hd, show n.toNat - i = 0 by omega]
      simp [digs, List.take_of_length_le (show L.length ≤ i by omega)]

theorem ipow_mono {p : Int} (hp : 1 ≤ p) {i j : Nat} (h : i ≤ j) : p ^ i ≤ p ^ j := by
  induction j with
  | zero =>
    rw [show i = 0 by omega]
    exact Int.le_refl _
  | succ j ih =>
    by_cases hij : i = j + 1
    · rw [hij]
      exact Int.le_refl _
    · have h1 := ih (by omega)
      have h2 : p ^ (j + 1) = p ^ j * p := Int.pow_succ _ _
      have h3 : 0 ≤ p ^ j := Int.pow_nonneg (by omega)
      have h4 : p ^ j * 1 ≤ p ^ j * p := Int.mul_le_mul_of_nonneg_left hp h3
      omega

/-- the order of a field, 0 where it is out of range -/
def ordr (p m : Int) : Int := if 2 ≤ p ∧ 1 ≤ m ∧ m ≤ 8 ∧ p ^ m.toNat ≤ 256 then p ^ m.toNat else 0
theorem c_Order {p m : Int} {md : AV} {H : AH} {Q : AV → AH → Prop} (hQ : ∀ H', Ext H H' → Q (.int .i64 (ordr p m)) H') : AC Try.prog 50 [.agg [.int .i64 p, .int .i64 m, md]] H Q := by
  refine at50 (by simp) ?_
  simp (disch := first | assumption | omega) only [↓RP, RQ, TY, loadT, s50, reduceIte, Nat.reduceEqDiff, Nat.reduceAdd]
  refine kNew_intro fun b H1 hb hE hH1 => ?_
  by_cases h1 : p < 2
  · simp (disch := first | assumption | omega) only [↓RP, RQ, TY, loadT, reduceIte, Nat.reduceEqDiff, Nat.reduceAdd, loadT, hH1, h1]
    have := hQ H1 hE
    rwa [ordr, if_neg (by omega)] at this
  by_cases h2 : m < 1
  · simp (disch := first | assumption | omega) only [↓RP, RQ, TY, loadT, reduceIte, Nat.reduceEqDiff, Nat.reduceAdd, loadT, hH1, h1, h2]
    have := hQ H1 hE
    rwa [ordr, if_neg (by omega)] at this
  by_cases h3 : 8 < m
  · simp (disch := first | assumption | omega) only [↓RP, RQ, TY, loadT, reduceIte, Nat.reduceEqDiff, Nat.reduceAdd, loadT, hH1, h1, h2, h3]
    have := hQ H1 hE
    rwa [ordr, if_neg (by omega)] at this
  simp (disch := first | assumption | omega) only [↓RP, RQ, TY, loadT, reduceIte, Nat.reduceEqDiff, Nat.reduceAdd, loadT, hH1, h1, h2, h3]
  refine sw_loop (σ := Nat) (fun i e H' => e 4 = .int .i64 i ∧ e 3 = .int .i64 (p ^ i) ∧ e 1 = .ptr b 0 ∧ (i : Int) ≤ m ∧ p ^ i ≤ 256 ∧ H' = H1) (fun i => m.toNat - i) 0 ?_ ?_
  · simp (disch := first | assumption | omega) only [↓RP, RQ, TY, loadT, reduceIte, Nat.reduceEqDiff, Nat.reduceAdd]
    simp
    omega
  · rintro i e' H' ⟨e4, e3, e1, hi, hq, rfl⟩
    by_cases hlt : (i : Int) < m
    · have hpos : 0 ≤ p ^ i := Int.pow_nonneg (by omega)
      have hd1 : 0 ≤ 256 / p := Int.ediv_nonneg (by omega) (by omega)
      have hd2 : 256 / p ≤ 256 := Int.ediv_le_self p (by omega)
      by_cases hc : 256 / p < p ^ i
      · simp (disch := first | assumption | omega) only [↓RP, RQ, TY, loadT, reduceIte, Nat.reduceEqDiff, Nat.reduceAdd, loadT, hH1, e4, e3, e1, hlt, hc]
        have := hQ H' hE
        rwa [ordr, if_neg] at this
        rintro ⟨-, -, -, h⟩
        have h5 : 256 < p ^ (i + 1) := by
          rw [Int.pow_succ]
          exact (Int.ediv_lt_iff_lt_mul (by omega)).mp hc
        have h6 : p ^ (i + 1) ≤ p ^ m.toNat := ipow_mono (by omega) (by omega)
        omega
      · have h5 : p ^ (i + 1) ≤ 256 := by
          rw [Int.pow_succ]
          exact (Int.le_ediv_iff_mul_le (by omega)).mp (by omega)
        have h6 : p ^ (i + 1) = p ^ i * p := Int.pow_succ _ _
        have h7 : 0 ≤ p ^ i * p := Int.mul_nonneg hpos (by omega)
        simp (disch := first | assumption | omega) only [↓RP, RQ, TY, loadT, reduceIte, Nat.reduceEqDiff, Nat.reduceAdd, loadT, hH1, e4, e3, e1, hlt, hc]
        refine ⟨i + 1, ?_, by dsimp only; omega⟩
        simp (disch := first | assumption | omega) only [↓RP, RQ, TY, loadT, reduceIte, Nat.reduceEqDiff, Nat.reduceAdd, e4, e3, e1, h6]
        omega
    · simp (disch := first | assumption | omega) only [↓RP, RQ, TY, loadT, reduceIte, Nat.reduceEqDiff, Nat.reduceAdd, loadT, hH1, e4, e3, e1, hlt]
      have := hQ H' hE
      have e5 : m.toNat = i := by omega
      rwa [ordr, e5, if_pos (by omega)] at this
end Go.Proofs.Yteijojnahpeglaa.AM
/-! The reference's field, second part: primes and divisors. -/
namespace Go.Proofs.Yteijojnahpeglaa.AM
open Go Go.RowKit
set_option linter.unusedVariables false
set_option linter.unusedSimpArgs false
set_option maxRecDepth 20000
def prm (n : Int) : Prop := ∀ d, 2 ≤ d → d < n → n % d ≠ 0
open Classical in
theorem c_prime {n : Int} {H : AH} {Q : AV → AH → Prop} (hn : 2 ≤ n) (hn' : n ≤ 256) (hQ : Q (.bool (decide (prm n))) H) : AC Try.prog 51 [.int .i64 n] H Q := by
  refine at51 (by simp) ?_
  simp (disch := first | assumption | omega) only [↓RP, RQ, TY, loadT, s51, reduceIte, Nat.reduceEqDiff, Nat.reduceAdd]
  refine sw_loop (σ := Nat) (fun i e H' => e 3 = .int .i64 i ∧ e 0 = .int .i64 n ∧ 2 ≤ i ∧ (i : Int) ≤ n ∧ (∀ d : Int, 2 ≤ d → d < i → n % d ≠ 0) ∧ H' = H) (fun i => n.toNat - i) 2 ?_ ?_
  · simp (disch := first | assumption | omega) only [↓RP, RQ, TY, loadT, reduceIte, Nat.reduceEqDiff, Nat.reduceAdd]
    refine ⟨rfl, by omega, by omega, fun d h1 h2 => ?_⟩
    have : ((2 : Nat) : Int) = 2 := rfl
    omega
  · rintro i e' H' ⟨e3, e0, hi, hi', hd, rfl⟩
    by_cases hlt : (i : Int) < n
    · by_cases hz : n % (i : Int) = 0
      · simp (disch := first | assumption | omega) only [↓RP, RQ, TY, loadT, reduceIte, Nat.reduceEqDiff, Nat.reduceAdd, e3, e0, hlt, hz]
        rwa [decide_eq_false (fun q => q i (by omega) hlt hz)] at hQ
      · simp (disch := first | assumption | omega) only [↓RP, RQ, TY, loadT, reduceIte, Nat.reduceEqDiff, Nat.reduceAdd, e3, e0, hlt, hz]
        refine ⟨i + 1, ?_, by dsimp only; omega⟩
        simp (disch := first | assumption | omega) only [↓RP, RQ, TY, loadT, reduceIte, Nat.reduceEqDiff, Nat.reduceAdd, e3, e0]
        refine ⟨by omega, by omega, fun d h1 h2 => ?_⟩
        by_cases hdi : d = i
        · rw [hdi]; exact hz
        · exact hd d h1 (by omega)
    · simp (disch := first | assumption | omega) only [↓RP, RQ, TY, loadT, reduceIte, Nat.reduceEqDiff, Nat.reduceAdd, e3, e0, hlt]
      rwa [decide_eq_true (show prm n from fun d h1 h2 => hd d h1 (by omega))] at hQ

/-- One step of the division: the multiple of the divisor low, moved to the end i, is taken away. -/
def divIn (p : Int) (low : List Int) (i : Nat) (c : Int) (j : Nat) (r : List Int) : List Int :=
  r.set (i - low.length + j) ((r.getD (i - low.length + j) 0 + (p - c) * low.getD j 0) % p)
def divStep (p : Int) (low : List Int) (i : Nat) (r : List Int) : List Int := (upto (divIn p low i (r.getD i 0)) low.length r).set i 0
def divRem (p : Int) (low mod : List Int) : List Int := upto (fun k r => divStep p low (mod.length - k) r) (mod.length + 1 - low.length) (mod ++ [1])
def divs (p : Int) (low mod : List Int) : Prop := ∀ i, (divRem p low mod).getD i 0 = 0
theorem divIn_ok {p : Int} (hp : 0 < p) {low : List Int} (i : Nat) (c : Int) {r : List Int} (hr : Rng p r) : ∀ j, (upto (divIn p low i c) j r).length = r.length ∧ Rng p (upto (divIn p low i c) j r)
  | 0 => ⟨rfl, hr⟩
  | j + 1 => by
    obtain ⟨h1, h2⟩ := divIn_ok hp i c hr j
    rw [upto_succ, divIn]
    exact ⟨by rw [List.length_set, h1], h2.set (Int.emod_nonneg _ (by omega)) (Int.emod_lt_of_pos _ hp) _⟩
theorem divStep_ok {p : Int} (hp : 0 < p) {low : List Int} (i : Nat) {r : List Int} (hr : Rng p r) : (divStep p low i r).length = r.length ∧ Rng p (divStep p low i r) := by
  obtain ⟨h1, h2⟩ := divIn_ok hp (low := low) i (r.getD i 0) hr low.length
  exact ⟨by rw [divStep, List.length_set, h1], h2.set (by omega) hp _⟩
theorem divRem_ok {p : Int} (hp : 1 < p) {low mod : List Int} (hm : Rng p mod) : ∀ k, (upto (fun k r => divStep p low (mod.length - k) r) k (mod ++ [1])).length = mod.length + 1 ∧ Rng p (upto (fun k r => divStep p low (mod.length - k) r) k (mod ++ [1]))
  | 0 => ⟨by simp [upto], hm.app (Rng.one (by omega) hp)⟩
  | k + 1 => by
    obtain ⟨h1, h2⟩ := divRem_ok hp hm k
    obtain ⟨h3, h4⟩ := divStep_ok (show 0 < p by omega) (low := low) (mod.length - k) h2
    exact ⟨by rw [upto_succ, h3, h1], h4⟩
open Classical in
theorem c_divides {p : Int} {vl vm : AV} {low mod : List Int} {H : AH} {Q : AV → AH → Prop} (hp : 2 ≤ p) (hp' : p ≤ 256) (hl : Ints H vl low) (hm : Ints H vm mod) (rl : Rng p low) (rm : Rng p mod) (hd : 1 ≤ low.length) (hn : mod.length ≤ 100)
    (hQ : ∀ H', Ext H H' → Q (.bool (decide (divs p low mod))) H') : AC Try.prog 68 [vl, vm, .int .i64 p] H Q := by
  refine at68 (by simp) ?_
  simp (disch := first | assumption | omega) only [↓RP, RQ, TY, loadT, s68, reduceIte, Nat.reduceEqDiff, Nat.reduceAdd, hl.ints]
  refine kNew_intro fun b0 H1 hb0 hE1 hH1 => ?_
  simp (disch := first | assumption | omega) only [↓RP, RQ, TY, loadT, reduceIte, Nat.reduceEqDiff, Nat.reduceAdd, hl.ints]
  refine kApp_own (H0 := H) (Own.mk hH1 hb0 rfl) hE1 (hm.ext hE1) ints_ones (by simp [ints]; omega) (by simp [ints]; omega) fun v2 H2 hE2 ho2 hk2 => ?_
  simp (disch := first | assumption | omega) only [↓RP, RQ, TY, loadT, reduceIte, Nat.reduceEqDiff, Nat.reduceAdd, hl.ints]
  refine kNew_intro fun b3 H3 hb3 hE3 hH3 => ?_
  simp (disch := first | assumption | omega) only [↓RP, RQ, TY, loadT, reduceIte, Nat.reduceEqDiff, Nat.reduceAdd, hl.ints]
  refine kApp_own (H0 := H) (ho2.ext hE3) (hE2.trans hE3) (Sl.own hH3 rfl) (by simp [AV.one]) (by simp [ints]; omega) (by simp [ints]; omega) fun v4 H4 hE4 ho4 hk4 => ?_
  obtain ⟨b, rfl, hb, h0⟩ := ho4.block (by simp)
  have e1 : [] ++ ints mod ++ [AV.int .i64 1] = ints (mod ++ [1]) := by simp [ints]
  rw [e1] at hb
  rw [e1, ints_length, List.length_append, List.length_singleton]
  simp (disch := first | assumption | omega) only [↓RP, RQ, TY, loadT, reduceIte, Nat.reduceEqDiff, Nat.reduceAdd, hl.ints]
  refine sw_loop (σ := Nat) (fun k e H' => e 9 = .int .i64 (mod.length - k : Nat) ∧ e 8 = .sl b 0 (mod.length + 1) (.own 1) ∧ e 7 = .int .i64 low.length ∧ e 0 = vl ∧ e 2 = .int .i64 p ∧ k ≤ mod.length + 1 - low.length ∧ Ext H H' ∧
    H' b = .rw (ints (upto (fun k r => divStep p low (mod.length - k) r) k (mod ++ [1])))) (fun k => mod.length + 1 - k) 0 ?_ ?_
  · simp (disch := first | assumption | omega) only [↓RP, RQ, TY, loadT, reduceIte, Nat.reduceEqDiff, Nat.reduceAdd, hb]
    refine ⟨?_, by omega, hE4, rfl⟩
    congr 1
    omega
  rintro k e H' ⟨e9, e8, e7, e0, e2, hk, hE, hb'⟩
  obtain ⟨hR1, hR2⟩ := divRem_ok (show 1 < p by omega) (low := low) rm k
  generalize hR : upto (fun k r => divStep p low (mod.length - k) r) k (mod ++ [1]) = R at *
  generalize hI : mod.length - k = I at *
  by_cases hlt : (low.length : Int) ≤ (I : Int)
  · simp (disch := first | assumption | omega) only [↓RP, RQ, TY, loadT, reduceIte, Nat.reduceEqDiff, Nat.reduceAdd, e9, e8, e7, e0, e2, hlt, hb']
    refine sw_loop (σ := Nat) (fun j e H' => e 11 = .int .i64 j ∧ e 10 = .int .i64 (R.getD I 0) ∧ e 9 = .int .i64 I ∧ e 8 = .sl b 0 (mod.length + 1) (.own 1) ∧ e 7 = .int .i64 low.length ∧ e 0 = vl ∧ e 2 = .int .i64 p ∧ j ≤ low.length ∧ Ext H H' ∧
      H' b = .rw (ints (upto (divIn p low I (R.getD I 0)) j R))) (fun j => low.length - j) 0 ?_ ?_
    · simp (disch := first | assumption | omega) only [↓RP, RQ, TY, loadT, reduceIte, Nat.reduceEqDiff, Nat.reduceAdd, e9, e8, e7, e0, e2, hb', upto]
      exact ⟨by omega, hE⟩
    rintro j e H' ⟨e11, e10, e9, e8, e7, e0, e2, hj, hE, hb'⟩
    obtain ⟨hS1, hS2⟩ := divIn_ok (show 0 < p by omega) (low := low) I (R.getD I 0) hR2 j
    generalize hS : upto (divIn p low I (R.getD I 0)) j R = S at *
    have hl' := hl.ext hE
    by_cases hjt : (j : Int) < low.length
    · have b1 := hR2 I
      have b2 := rl j
      have b3 := hS2 (I - low.length + j)
      have b4 := mul_bd (a := p - R.getD I 0) (b := low.getD j 0) (A := 256) (B := 256) (by omega) (by omega) (by omega) (by omega)
      have i1 : ((I : Int) - (low.length : Int) + (j : Int)).toNat = I - low.length + j := by omega
      simp (disch := first | assumption | omega) only [↓RP, RQ, TY, loadT, reduceIte, Nat.reduceEqDiff, Nat.reduceAdd, e11, e10, e9, e8, e7, e0, e2, hjt, hb', hl'.ints, i1]
      refine ⟨j + 1, ?_, by dsimp only; omega⟩
      simp (disch := first | assumption | omega) only [↓RP, RQ, TY, loadT, reduceIte, Nat.reduceEqDiff, Nat.reduceAdd, e11, e10, e9, e8, e7, e0, e2]
      refine ⟨by omega, hE.upd h0 _, ?_⟩
      rw [upto_succ, hS]
      rfl
    · simp (disch := first | assumption | omega) only [↓RP, RQ, TY, loadT, reduceIte, Nat.reduceEqDiff, Nat.reduceAdd, e11, e10, e9, e8, e7, e0, e2, hjt, hb', hl'.ints]
      refine ⟨k + 1, ?_, by dsimp only; omega⟩
      simp (disch := first | assumption | omega) only [↓RP, RQ, TY, loadT, reduceIte, Nat.reduceEqDiff, Nat.reduceAdd, e11, e10, e9, e8, e7, e0, e2]
      refine ⟨?_, by omega, hE.upd h0 _, ?_⟩
      · congr 1
        omega
      · rw [upto_succ, hR, hI, divStep, ← hS, show j = low.length by omega]
  · simp (disch := first | assumption | omega) only [↓RP, RQ, TY, loadT, reduceIte, Nat.reduceEqDiff, Nat.reduceAdd, e9, e8, e7, e0, e2, hlt, hb']
    have hRR : R = divRem p low mod := by
      rw [divRem, ← hR]
      congr 1
      omega
    refine sw_loop (σ := Nat) (fun j e H' => e 12 = .int .i64 j ∧ e 8 = .sl b 0 (mod.length + 1) (.own 1) ∧ j ≤ mod.length + 1 ∧ Ext H H' ∧
      H' b = .rw (ints R) ∧ ∀ q, q < j → R.getD q 0 = 0) (fun j => mod.length + 1 - j) 0 ?_ ?_
    · simp (disch := first | assumption | omega) only [↓RP, RQ, TY, loadT, reduceIte, Nat.reduceEqDiff, Nat.reduceAdd, e8, hb']
      exact ⟨by omega, hE, fun q hq => by omega⟩
    rintro j e H' ⟨e12, e8, hj, hE, hb', hz⟩
    by_cases hjt : (j : Int) < (mod.length : Int) + 1
    · by_cases hjz : R.getD j 0 = 0
      · simp (disch := first | assumption | omega) only [↓RP, RQ, TY, loadT, reduceIte, Nat.reduceEqDiff, Nat.reduceAdd, e12, e8, hjt, hb', hjz]
        refine ⟨j + 1, ?_, by dsimp only; omega⟩
        simp (disch := first | assumption | omega) only [↓RP, RQ, TY, loadT, reduceIte, Nat.reduceEqDiff, Nat.reduceAdd, e12, e8]
        refine ⟨by omega, hE, hb', fun q hq => ?_⟩
        by_cases hqj : q = j
        · rw [hqj]; exact hjz
        · exact hz q (by omega)
      · simp (disch := first | assumption | omega) only [↓RP, RQ, TY, loadT, reduceIte, Nat.reduceEqDiff, Nat.reduceAdd, e12, e8, hjt, hb', hjz]
        have := hQ H' hE
        rwa [decide_eq_false (fun q : divs p low mod => hjz (by rw [hRR]; exact q j))] at this
    · simp (disch := first | assumption | omega) only [↓RP, RQ, TY, loadT, reduceIte, Nat.reduceEqDiff, Nat.reduceAdd, e12, e8, hjt, hb']
      have := hQ H' hE
      rwa [decide_eq_true (show divs p low mod from fun q => by
        by_cases hq : q < j
        · rw [← hRR]; exact hz q hq
        · rw [← hRR, List.getD_eq_getElem?_getD, List.getElem?_eq_none (by omega)]; rfl)] at this
end Go.Proofs.Yteijojnahpeglaa.AM
/-! The reference's field, third part: Check. -/
namespace Go.Proofs.Yteijojnahpeglaa.AM
open Go Go.RowKit
set_option linter.unusedVariables false
set_option linter.unusedSimpArgs false
set_option maxRecDepth 20000
theorem digs_length (p : Int) : ∀ n x, (digs p n x).length = n
  | 0, _ => rfl
  | n + 1, x => by simp [digs, digs_length p n]
theorem digs_rng {p : Int} (hp : 0 < p) : ∀ n x, Rng p (digs p n x)
  | 0, _ => by intro i; simpa [digs] using hp
  | n + 1, x => by
    intro i
    cases i with
    | zero => simpa [digs] using ⟨Int.emod_nonneg x (by omega), Int.emod_lt_of_pos x hp⟩
    | succ i => simpa [digs] using digs_rng hp n (x / p) i
/-- no monic divisor of a degree from 1 to half of its own -/
def irr (p : Int) (mod : List Int) : Prop := ∀ d : Nat, 1 ≤ d → 2 * d ≤ mod.length → ∀ v : Int, 0 ≤ v → v < p ^ d → ¬ divs p (digs p d v) mod
open Classical in
theorem c_irreducible {p : Int} {vm : AV} {mod : List Int} {H : AH} {Q : AV → AH → Prop} (hp : 2 ≤ p) (hp' : p ≤ 256) (hm : Ints H vm mod) (rm : Rng p mod) (hn : mod.length ≤ 8) (hq : p ^ mod.length ≤ 256)
    (hQ : ∀ H', Ext H H' → Q (.bool (decide (irr p mod))) H') : AC Try.prog 52 [vm, .int .i64 p] H Q := by
  refine at52 (by simp) ?_
  simp (disch := first | assumption | omega) only [↓RP, RQ, TY, loadT, s52, reduceIte, Nat.reduceEqDiff, Nat.reduceAdd]
  refine sw_loop (σ := Nat) (fun k e H' => e 6 = .int .i64 (k + 1) ∧ e 5 = .int .i64 (p ^ k) ∧ e 0 = vm ∧ e 1 = .int .i64 p ∧ 2 * k ≤ mod.length ∧ Ext H H' ∧
    ∀ d : Nat, 1 ≤ d → d ≤ k → ∀ v : Int, 0 ≤ v → v < p ^ d → ¬ divs p (digs p d v) mod) (fun k => mod.length - k) 0 ?_ ?_
  · simp (disch := first | assumption | omega) only [↓RP, RQ, TY, loadT, reduceIte, Nat.reduceEqDiff, Nat.reduceAdd]
    refine ⟨rfl, by simp, by omega, Ext.refl H, fun d h1 h2 => by omega⟩
  rintro k e H' ⟨e6, e5, e0, e1, hk, hE, hd⟩
  have hm' := hm.ext hE
  have hpk : 0 ≤ p ^ k := Int.pow_nonneg (by omega)
  have hp1 : p ^ (k + 1) = p ^ k * p := Int.pow_succ _ _
  by_cases hlt : 2 * ((k : Int) + 1) ≤ mod.length
  · have hb : p ^ (k + 1) ≤ 256 := Int.le_trans (ipow_mono (by omega) (by omega)) hq
    have hb0 : 0 ≤ p ^ k * p := Int.mul_nonneg hpk (by omega)
    rw [hp1] at hb
    simp (disch := first | assumption | omega) only [↓RP, RQ, TY, loadT, reduceIte, Nat.reduceEqDiff, Nat.reduceAdd, e6, e5, e0, e1, hlt, hm'.ints]
    refine sw_loop (σ := Nat) (fun v e H' => e 7 = .int .i64 v ∧ e 6 = .int .i64 (k + 1) ∧ e 5 = .int .i64 (p ^ k * p) ∧ e 0 = vm ∧ e 1 = .int .i64 p ∧ (v : Int) ≤ p ^ k * p ∧ Ext H H' ∧
      ∀ v' : Int, 0 ≤ v' → v' < v → ¬ divs p (digs p (k + 1) v') mod) (fun v => (p ^ k * p).toNat - v) 0 ?_ ?_
    · simp (disch := first | assumption | omega) only [↓RP, RQ, TY, loadT, reduceIte, Nat.reduceEqDiff, Nat.reduceAdd, e6, e5, e0, e1]
      refine ⟨by simpa using hb0, hE, fun v' h1 h2 => by omega⟩
    rintro v e H' ⟨e7, e6, e5, e0, e1, hv, hE, hdv⟩
    by_cases hvt : (v : Int) < p ^ k * p
    · simp (disch := first | assumption | omega) only [↓RP, RQ, TY, loadT, reduceIte, Nat.reduceEqDiff, Nat.reduceAdd, e7, e6, e5, e0, e1, hvt]
      refine c_digits (by omega) (by omega) (by omega) (by omega) (by omega) fun b1 H1 hb1 hE1 hH1 => ?_
      have hE2 := hE.trans hE1
      simp (disch := first | assumption | omega) only [↓RP, RQ, TY, loadT, reduceIte, Nat.reduceEqDiff, Nat.reduceAdd, e7, e6, e5, e0, e1]
      refine c_divides hp hp' (Sl.own hH1 (by simp [ints, digs_length])) (hm.ext hE2) (digs_rng (by omega) _ _) rm (by rw [digs_length]; omega) (by omega) fun H3 hE3 => ?_
      have hE4 := hE2.trans hE3
      have hkk : ((k : Int) + 1).toNat = k + 1 := by omega
      by_cases hdd : divs p (digs p (k + 1) v) mod
      · simp (disch := first | assumption | omega) only [↓RP, RQ, TY, loadT, reduceIte, Nat.reduceEqDiff, Nat.reduceAdd, hkk, hdd]
        have := hQ H3 hE4
        rwa [decide_eq_false (fun q : irr p mod => q (k + 1) (by omega) (by omega) v (by omega) (by omega) hdd)] at this
      · simp (disch := first | assumption | omega) only [↓RP, RQ, TY, loadT, reduceIte, Nat.reduceEqDiff, Nat.reduceAdd, hkk, hdd, e7, e6, e5, e0, e1]
        refine ⟨v + 1, ?_, by dsimp only; omega⟩
        simp (disch := first | assumption | omega) only [↓RP, RQ, TY, loadT, reduceIte, Nat.reduceEqDiff, Nat.reduceAdd, e7, e6, e5, e0, e1]
        refine ⟨by omega, hE4, fun v' h1 h2 => ?_⟩
        by_cases hvv : v' = v
        · rw [hvv]; exact hdd
        · exact hdv v' h1 (by omega)
    · simp (disch := first | assumption | omega) only [↓RP, RQ, TY, loadT, reduceIte, Nat.reduceEqDiff, Nat.reduceAdd, e7, e6, e5, e0, e1, hvt]
      refine ⟨k + 1, ?_, by dsimp only; omega⟩
      simp (disch := first | assumption | omega) only [↓RP, RQ, TY, loadT, reduceIte, Nat.reduceEqDiff, Nat.reduceAdd, e6, e5, e0, e1, hp1]
      refine ⟨by omega, hE, fun d h1 h2 v' h3 h4 => ?_⟩
      by_cases hdk : d = k + 1
      · subst hdk
        exact hdv v' h3 (by omega)
      · exact hd d h1 (by omega) v' h3 h4
  · simp (disch := first | assumption | omega) only [↓RP, RQ, TY, loadT, reduceIte, Nat.reduceEqDiff, Nat.reduceAdd, e6, e5, e0, e1, hlt, hm'.ints]
    have := hQ H' hE
    rwa [decide_eq_true (show irr p mod from fun d h1 h2 => hd d h1 (by omega))] at this
/-- p, m, mod describe a field, as the reference checks it. -/
def FieldOk (p m : Int) (mod : List Int) : Prop :=
  ordr p m ≠ 0 ∧ prm p ∧ ((m = 1 ∧ mod = []) ∨ (m ≠ 1 ∧ (mod.length : Int) = m ∧ Rng p mod ∧ irr p mod))
theorem ordr_pos {p m : Int} (h : ordr p m ≠ 0) : 2 ≤ p ∧ 1 ≤ m ∧ m ≤ 8 ∧ p ^ m.toNat ≤ 256 ∧ ordr p m = p ^ m.toNat := by
  unfold ordr at h ⊢
  split at h
  · rename_i hh
    rw [if_pos hh]
    exact ⟨hh.1, hh.2.1, hh.2.2.1, hh.2.2.2, rfl⟩
  · exact (h rfl).elim
theorem ordr_p {p m : Int} (h : ordr p m ≠ 0) : p ≤ 256 := by
  obtain ⟨h1, h2, h3, h4, -⟩ := ordr_pos h
  have := ipow_mono (p := p) (by omega) (show 1 ≤ m.toNat by omega)
  rw [show p ^ 1 = p by rw [Int.pow_succ, Int.pow_zero, Int.one_mul]] at this
  omega
open Classical in
theorem c_Check04 {p m : Int} {md : AV} {mod : List Int} {H : AH} {Q : AV → AH → Prop} (hm : Ints H md mod)
    (hQ : ∀ H', Ext H H' → Q (.int .i64 (if FieldOk p m mod then 0 else 1)) H') : AC Try.prog 32 [.agg [.int .i64 p, .int .i64 m, md]] H Q := by
  refine at32 (by simp) ?_
  simp (disch := first | assumption | omega) only [↓RP, RQ, TY, loadT, s32, reduceIte, Nat.reduceEqDiff, Nat.reduceAdd]
  refine kNew_intro fun b H1 hb hE hH1 => ?_
  simp (disch := first | assumption | omega) only [↓RP, RQ, TY, loadT, reduceIte, Nat.reduceEqDiff, Nat.reduceAdd, hH1]
  refine c_Order fun H2 hE2 => ?_
  have hE3 := hE.trans hE2
  have hH2 := hE2.rw hH1
  have hm2 := hm.ext hE3
  by_cases ho : ordr p m = 0
  · simp (disch := first | assumption | omega) only [↓RP, RQ, TY, loadT, reduceIte, Nat.reduceEqDiff, Nat.reduceAdd, hH2, ho]
    have := hQ H2 hE3
    rwa [if_neg (fun q => q.1 ho)] at this
  obtain ⟨o1, o2, o3, o4, o5⟩ := ordr_pos ho
  have o6 := ordr_p ho
  simp (disch := first | assumption | omega) only [↓RP, RQ, TY, loadT, reduceIte, Nat.reduceEqDiff, Nat.reduceAdd, hH2, ho]
  refine c_prime o1 o6 ?_
  by_cases hp : prm p
  rotate_left
  · simp (disch := first | assumption | omega) only [↓RP, RQ, TY, loadT, reduceIte, Nat.reduceEqDiff, Nat.reduceAdd, hH2, hp]
    have := hQ H2 hE3
    rwa [if_neg (fun q => hp q.2.1)] at this
  by_cases h1 : m = 1
  · by_cases hl : (mod.length : Int) = 0
    · simp (disch := first | assumption | omega) only [↓RP, RQ, TY, loadT, reduceIte, Nat.reduceEqDiff, Nat.reduceAdd, hH2, hp, h1, hl, hm2.ints]
      have := hQ H2 hE3
      rwa [if_pos ⟨ho, hp, .inl ⟨h1, List.length_eq_zero_iff.mp (by omega)⟩⟩] at this
    · simp (disch := first | assumption | omega) only [↓RP, RQ, TY, loadT, reduceIte, Nat.reduceEqDiff, Nat.reduceAdd, hH2, hp, h1, hl, hm2.ints]
      have := hQ H2 hE3
      rwa [if_neg (fun q => q.2.2.elim (fun q => hl (by rw [q.2]; rfl)) fun q => q.1 h1)] at this
  by_cases hl : (mod.length : Int) = m
  rotate_left
  · simp (disch := first | assumption | omega) only [↓RP, RQ, TY, loadT, reduceIte, Nat.reduceEqDiff, Nat.reduceAdd, hH2, hp, h1, hl, hm2.ints]
    have := hQ H2 hE3
    rwa [if_neg (fun q => q.2.2.elim (fun q => h1 q.1) fun q => hl q.2.1)] at this
  simp (disch := first | assumption | omega) only [↓RP, RQ, TY, loadT, reduceIte, Nat.reduceEqDiff, Nat.reduceAdd, hH2, hp, h1, hl, hm2.ints]
  refine sw_loop (σ := Nat) (fun i e H' => e 3 = .int .i64 i ∧ e 1 = .ptr b 0 ∧ (i : Int) ≤ m ∧ H' = H2 ∧ ∀ j, j < i → 0 ≤ mod.getD j 0 ∧ mod.getD j 0 < p) (fun i => m.toNat - i) 0 ?_ ?_
  · simp (disch := first | assumption | omega) only [↓RP, RQ, TY, loadT, reduceIte, Nat.reduceEqDiff, Nat.reduceAdd]
    exact ⟨by omega, fun j hj => by omega⟩
  rintro i e H' ⟨e3, e1, hi, rfl, hj⟩
  by_cases hlt : (i : Int) < m
  · by_cases c1 : mod.getD i 0 < 0
    · simp (disch := first | assumption | omega) only [↓RP, RQ, TY, loadT, reduceIte, Nat.reduceEqDiff, Nat.reduceAdd, e3, e1, hlt, hH2, c1, hm2.ints]
      have := hQ H' hE3
      rwa [if_neg (fun q => q.2.2.elim (fun q => h1 q.1) fun q => absurd (q.2.2.1 i).1 (by omega))] at this
    by_cases c2 : p ≤ mod.getD i 0
    · simp (disch := first | assumption | omega) only [↓RP, RQ, TY, loadT, reduceIte, Nat.reduceEqDiff, Nat.reduceAdd, e3, e1, hlt, hH2, c1, c2, hm2.ints]
      have := hQ H' hE3
      rwa [if_neg (fun q => q.2.2.elim (fun q => h1 q.1) fun q => absurd (q.2.2.1 i).2 (by omega))] at this
    simp (disch := first | assumption | omega) only [↓RP, RQ, TY, loadT, reduceIte, Nat.reduceEqDiff, Nat.reduceAdd, e3, e1, hlt, hH2, c1, c2, hm2.ints]
    refine ⟨i + 1, ?_, by dsimp only; omega⟩
    simp (disch := first | assumption | omega) only [↓RP, RQ, TY, loadT, reduceIte, Nat.reduceEqDiff, Nat.reduceAdd, e3, e1]
    refine ⟨by omega, fun j h => ?_⟩
    by_cases hji : j = i
    · rw [hji]; exact ⟨by omega, by omega⟩
    · exact hj j (by omega)
  · have hr : Rng p mod := fun j => by
      by_cases hji : j < i
      · exact hj j hji
      · rw [List.getD_eq_getElem?_getD, List.getElem?_eq_none (by omega)]
        exact ⟨by simp, by simpa using (show 0 < p by omega)⟩
    simp (disch := first | assumption | omega) only [↓RP, RQ, TY, loadT, reduceIte, Nat.reduceEqDiff, Nat.reduceAdd, e3, e1, hlt, hH2, hm2.ints]
    refine c_irreducible o1 o6 hm2 hr (by omega) (by rw [show mod.length = m.toNat by omega]; exact o4) fun H3 hE4 => ?_
    have := hQ H3 (hE3.trans hE4)
    by_cases hir : irr p mod
    · simp (disch := first | assumption | omega) only [↓RP, RQ, TY, loadT, reduceIte, Nat.reduceEqDiff, Nat.reduceAdd, hir]
      rwa [if_pos ⟨ho, hp, .inr ⟨h1, hl, hr, hir⟩⟩] at this
    · simp (disch := first | assumption | omega) only [↓RP, RQ, TY, loadT, reduceIte, Nat.reduceEqDiff, Nat.reduceAdd, hir]
      rwa [if_neg (fun q => q.2.2.elim (fun q => h1 q.1) fun q => hir q.2.2.2)] at this
end Go.Proofs.Yteijojnahpeglaa.AM
/-! The reference's field, fourth part: digits and sums. -/
namespace Go.Proofs.Yteijojnahpeglaa.AM
open Go Go.RowKit
set_option linter.unusedVariables false
set_option linter.unusedSimpArgs false
set_option maxRecDepth 20000
/-- the number with these digits -/
def val (p : Int) : List Int → Int
  | [] => 0
  | d :: ds => d + p * val p ds
theorem Rng.tail {p d : Int} {ds : List Int} (h : Rng p (d :: ds)) : Rng p ds := fun i => by simpa using h (i + 1)
theorem val_lt {p : Int} (hp : 0 < p) : ∀ {ds : List Int}, Rng p ds → 0 ≤ val p ds ∧ val p ds < p ^ ds.length
  | [], _ => by simp [val]
  | d :: ds, h => by
    have h1 := val_lt hp h.tail
    have h2 := h 0
    simp only [List.getD_cons_zero] at h2
    have h3 : p * val p ds ≤ p * (p ^ ds.length - 1) := Int.mul_le_mul_of_nonneg_left (by omega) (by omega)
    have h4 : 0 ≤ p * val p ds := Int.mul_nonneg (by omega) h1.1
    have h5 : p ^ (ds.length + 1) = p * p ^ ds.length := by rw [Int.pow_succ, Int.mul_comm]
    rw [Int.mul_sub, Int.mul_one] at h3
    simp only [val, List.length_cons, h5]
    omega
theorem drop_getD {ds : List Int} {i : Nat} (h : i < ds.length) : ds.drop i = ds.getD i 0 :: ds.drop (i + 1) := by
  rw [List.drop_eq_getElem_cons h]
  simp [h, List.getD_eq_getElem?_getD]
theorem Rng.drop {p : Int} {ds : List Int} (h : Rng p ds) (i : Nat) : Rng p (ds.drop i) := fun j => by
  have := h (i + j)
  simpa [List.getD_eq_getElem?_getD, List.getElem?_drop] using this
open Classical in
theorem c_Is04 {p m x : Int} {md : AV} {H : AH} {Q : AV → AH → Prop}
    (hQ : ∀ H', Ext H H' → Q (.bool (decide (0 ≤ x ∧ x < ordr p m))) H') : AC Try.prog 88 [.agg [.int .i64 p, .int .i64 m, md], .int .i64 x] H Q := by
  refine at88 (by simp) ?_
  simp (disch := first | assumption | omega) only [↓RP, RQ, TY, loadT, s88, reduceIte, Nat.reduceEqDiff, Nat.reduceAdd]
  refine kNew_intro fun b H1 hb hE hH1 => ?_
  by_cases h0 : 0 ≤ x
  · simp (disch := first | assumption | omega) only [↓RP, RQ, TY, loadT, reduceIte, Nat.reduceEqDiff, Nat.reduceAdd, hH1, h0]
    refine c_Order fun H2 hE2 => ?_
    have := hQ H2 (hE.trans hE2)
    by_cases h1 : x < ordr p m
    · simp (disch := first | assumption | omega) only [↓RP, RQ, TY, loadT, reduceIte, Nat.reduceEqDiff, Nat.reduceAdd, h1]
      rwa [decide_eq_true ⟨h0, h1⟩] at this
    · simp (disch := first | assumption | omega) only [↓RP, RQ, TY, loadT, reduceIte, Nat.reduceEqDiff, Nat.reduceAdd, h1]
      rwa [decide_eq_false (fun q => h1 q.2)] at this
  · simp (disch := first | assumption | omega) only [↓RP, RQ, TY, loadT, reduceIte, Nat.reduceEqDiff, Nat.reduceAdd, hH1, h0]
    have := hQ H1 hE
    rwa [decide_eq_false (fun q => h0 q.1)] at this
theorem c_In04 {p m x : Int} {md : AV} {H : AH} {Q : AV → AH → Prop} (hx : 0 ≤ x) (hx' : x < ordr p m)
    (hQ : ∀ H', Ext H H' → Q (.int .i64 x) H') : AC Try.prog 116 [.agg [.int .i64 p, .int .i64 m, md], .int .i64 x] H Q := by
  refine at116 (by simp) ?_
  simp (disch := first | assumption | omega) only [↓RP, RQ, TY, loadT, s116, reduceIte, Nat.reduceEqDiff, Nat.reduceAdd]
  refine kNew_intro fun b H1 hb hE hH1 => ?_
  simp (disch := first | assumption | omega) only [↓RP, RQ, TY, loadT, reduceIte, Nat.reduceEqDiff, Nat.reduceAdd, hH1]
  refine c_Is04 fun H2 hE2 => ?_
  simp (disch := first | assumption | omega) only [↓RP, RQ, TY, loadT, reduceIte, Nat.reduceEqDiff, Nat.reduceAdd, hx, hx']
  exact hQ H2 (hE.trans hE2)
theorem c_Digits04 {p m x : Int} {md : AV} {H : AH} {Q : AV → AH → Prop} (hx : 0 ≤ x) (hx' : x < ordr p m)
    (hQ : ∀ b H', H b = .free → Ext H H' → H' b = .rw (ints (digs p m.toNat x)) → Q (.sl b 0 m.toNat (.own 1)) H') : AC Try.prog 110 [.agg [.int .i64 p, .int .i64 m, md], .int .i64 x] H Q := by
  obtain ⟨o1, o2, o3, o4, o5⟩ := ordr_pos (p := p) (m := m) (by omega)
  refine at110 (by simp) ?_
  simp (disch := first | assumption | omega) only [↓RP, RQ, TY, loadT, s110, reduceIte, Nat.reduceEqDiff, Nat.reduceAdd]
  refine kNew_intro fun b H1 hb hE hH1 => ?_
  simp (disch := first | assumption | omega) only [↓RP, RQ, TY, loadT, reduceIte, Nat.reduceEqDiff, Nat.reduceAdd, hH1]
  refine c_In04 hx hx' fun H2 hE2 => ?_
  have hH2 := hE2.rw hH1
  have hE3 := hE.trans hE2
  simp (disch := first | assumption | omega) only [↓RP, RQ, TY, loadT, reduceIte, Nat.reduceEqDiff, Nat.reduceAdd, hH1, hH2]
  refine c_digits hx (by omega) (by omega) (by omega) (by omega) fun b4 H4 hb4 hE4 hH4 => ?_
  have hH4' := hE4.rw hH2
  simp (disch := first | assumption | omega) only [↓RP, RQ, TY, loadT, reduceIte, Nat.reduceEqDiff, Nat.reduceAdd, hH4']
  exact hQ b4 H4 (hE3.free hb4) (hE3.trans hE4) hH4
theorem c_Value04 {p m : Int} {md vd : AV} {ds : List Int} {H : AH} {Q : AV → AH → Prop} (hp : 2 ≤ p) (hd : Ints H vd ds) (rd : Rng p ds) (hp' : p ≤ 256) (hl : ds.length ≤ 100) (hq : p ^ ds.length ≤ 256)
    (hQ : ∀ H', Ext H H' → Q (.int .i64 (val p ds)) H') : AC Try.prog 111 [.agg [.int .i64 p, .int .i64 m, md], vd] H Q := by
  refine at111 (by simp) ?_
  simp (disch := first | assumption | omega) only [↓RP, RQ, TY, loadT, s111, reduceIte, Nat.reduceEqDiff, Nat.reduceAdd]
  refine kNew_intro fun b H1 hb hE hH1 => ?_
  have hd1 := hd.ext hE
  simp (disch := first | assumption | omega) only [↓RP, RQ, TY, loadT, reduceIte, Nat.reduceEqDiff, Nat.reduceAdd, hH1, hd1.ints]
  refine sw_loop (σ := Nat) (fun k e H' => e 6 = .int .i64 ((ds.length - k : Int) - 1) ∧ e 5 = .int .i64 (val p (ds.drop (ds.length - k))) ∧ e 2 = .ptr b 0 ∧ e 1 = vd ∧ k ≤ ds.length ∧ H' = H1) (fun k => ds.length - k) 0 ?_ ?_
  · simp (disch := first | assumption | omega) only [↓RP, RQ, TY, loadT, reduceIte, Nat.reduceEqDiff, Nat.reduceAdd]
    simp [val]
  rintro k e H' ⟨e6, e5, e2, e1, hk, rfl⟩
  have v1 := val_lt (show 0 < p by omega) (rd.drop (ds.length - k))
  have v2 : p ^ (ds.drop (ds.length - k)).length ≤ 256 := Int.le_trans (ipow_mono (by omega) (by simp)) hq
  by_cases hlt : 0 ≤ (ds.length - k : Int) - 1
  · have hi : ((ds.length - k : Int) - 1).toNat = ds.length - (k + 1) := by omega
    have v3 := val_lt (show 0 < p by omega) (rd.drop (ds.length - (k + 1)))
    have v4 : p ^ (ds.drop (ds.length - (k + 1))).length ≤ 256 := Int.le_trans (ipow_mono (by omega) (by simp)) hq
    have v5 : val p (ds.drop (ds.length - (k + 1))) = ds.getD (ds.length - (k + 1)) 0 + p * val p (ds.drop (ds.length - k)) := by
      rw [drop_getD (show ds.length - (k + 1) < ds.length by omega), val, show ds.length - (k + 1) + 1 = ds.length - k by omega]
    have v6 : p * val p (ds.drop (ds.length - k)) = val p (ds.drop (ds.length - k)) * p := Int.mul_comm _ _
    have v7 := rd (ds.length - (k + 1))
    simp (disch := first | assumption | omega) only [↓RP, RQ, TY, loadT, reduceIte, Nat.reduceEqDiff, Nat.reduceAdd, hH1, hd1.ints, e6, e5, e2, e1, hlt, hi]
    refine ⟨k + 1, ?_, by dsimp only; omega⟩
    simp (disch := first | assumption | omega) only [↓RP, RQ, TY, loadT, reduceIte, Nat.reduceEqDiff, Nat.reduceAdd, e6, e5, e2, e1]
    refine ⟨?_, ?_, by omega⟩
    · congr 1
      omega
    · congr 1
      omega
  · simp (disch := first | assumption | omega) only [↓RP, RQ, TY, loadT, reduceIte, Nat.reduceEqDiff, Nat.reduceAdd, hH1, hd1.ints, e6, e5, e2, e1, hlt]
    have := hQ H' hE
    rwa [show ds.length - k = 0 by omega]
end Go.Proofs.Yteijojnahpeglaa.AM
/-! The reference's field, fifth part: sums and negatives. -/
namespace Go.Proofs.Yteijojnahpeglaa.AM
open Go Go.RowKit
set_option linter.unusedVariables false
set_option linter.unusedSimpArgs false
set_option maxRecDepth 20000
/-- the list f 0, .., f (n-1) -/
def tab {α : Type} (n : Nat) (f : Nat → α) : List α := (List.range n).map f
theorem tab_length {α : Type} (n : Nat) (f : Nat → α) : (tab n f).length = n := by simp [tab]
theorem tab_get {n : Nat} {f : Nat → Int} {i : Nat} (h : i < n) : (tab n f).getD i 0 = f i := by
  simp [tab, List.getD_eq_getElem?_getD, h]
/-- A list that is being changed entry by entry: the first i entries are T's. -/
def mix (T a : List Int) (i : Nat) : List Int := T.take i ++ a.drop i
theorem mix_zero (T a : List Int) : mix T a 0 = a := by simp [mix]
theorem mix_length {T a : List Int} (h : T.length = a.length) (i : Nat) : (mix T a i).length = a.length := by
  simp [mix]; omega
theorem mix_full {T a : List Int} (h : T.length = a.length) {i : Nat} (hi : a.length ≤ i) : mix T a i = T := by
  simp [mix, List.drop_of_length_le hi, List.take_of_length_le (show T.length ≤ i by omega)]
theorem mix_get {T a : List Int} {i j : Nat} (h : T.length = a.length) (hi : i ≤ j) : (mix T a i).getD j 0 = a.getD j 0 := by
  by_cases hj : j < a.length
  · simp only [mix, List.getD_eq_getElem?_getD]
    rw [List.getElem?_append_right (by simp; omega), List.getElem?_drop]
    simp only [List.length_take]
    rw [show i + (j - min i T.length) = j by omega]
  · rw [List.getD_eq_getElem?_getD, List.getD_eq_getElem?_getD, List.getElem?_eq_none (by rw [mix_length h]; omega), List.getElem?_eq_none (by omega)]
theorem mix_set {T a : List Int} {i : Nat} (h : T.length = a.length) (hi : i < a.length) : (mix T a i).set i (T.getD i 0) = mix T a (i + 1) := by
  have h1 : (List.take i T).length = i := by simp; omega
  have h2 : i < T.length := by omega
  have h3 : T.getD i 0 = T[i] := by simp [List.getD_eq_getElem?_getD, h2]
  simp only [mix]
  rw [h3, List.set_append_right _ _ (by omega), h1, Nat.sub_self, List.drop_eq_getElem_cons hi, List.set_cons_zero, List.take_succ_eq_append_getElem h2]
  simp only [List.append_assoc, List.cons_append, List.nil_append]
theorem tab_rng {p : Int} (hp : 0 < p) {n : Nat} {f : Nat → Int} (h : ∀ i, i < n → 0 ≤ f i ∧ f i < p) : Rng p (tab n f) := by
  intro i
  by_cases hi : i < n
  · rw [tab_get hi]; exact h i hi
  · rw [List.getD_eq_getElem?_getD, List.getElem?_eq_none (by rw [tab_length]; omega)]
    exact ⟨by simp, by simpa using hp⟩
def addL (p : Int) (a b : List Int) : List Int := tab a.length fun i => (a.getD i 0 + b.getD i 0) % p
def negL (p : Int) (a : List Int) : List Int := tab a.length fun i => (p - a.getD i 0) % p
/-- sum and negative, by digits -/
def fadd (p m x y : Int) : Int := val p (addL p (digs p m.toNat x) (digs p m.toNat y))
def fneg (p m x : Int) : Int := val p (negL p (digs p m.toNat x))
theorem c_Add04 {p m x y : Int} {md : AV} {H : AH} {Q : AV → AH → Prop} (hx : 0 ≤ x) (hx' : x < ordr p m) (hy : 0 ≤ y) (hy' : y < ordr p m)
    (hQ : ∀ H', Ext H H' → Q (.int .i64 (fadd p m x y)) H') : AC Try.prog 109 [.agg [.int .i64 p, .int .i64 m, md], .int .i64 x, .int .i64 y] H Q := by
  have ho : ordr p m ≠ 0 := by omega
  obtain ⟨o1, o2, o3, o4, o5⟩ := ordr_pos ho
  have o6 := ordr_p ho
  refine at109 (by simp) ?_
  simp (disch := first | assumption | omega) only [↓RP, RQ, TY, loadT, s109, reduceIte, Nat.reduceEqDiff, Nat.reduceAdd]
  refine kNew_intro fun b H1 hb hE1 hH1 => ?_
  simp (disch := first | assumption | omega) only [↓RP, RQ, TY, loadT, reduceIte, Nat.reduceEqDiff, Nat.reduceAdd, hH1]
  refine c_Digits04 hx hx' fun b2 H2 hb2 hE2 hH2 => ?_
  have hb' := hE2.rw hH1
  have hE12 := hE1.trans hE2
  simp (disch := first | assumption | omega) only [↓RP, RQ, TY, loadT, reduceIte, Nat.reduceEqDiff, Nat.reduceAdd, hb']
  refine c_Digits04 hy hy' fun b3 H3 hb3 hE3 hH3 => ?_
  have hb'' := hE3.rw hb'
  have hH2' := hE3.rw hH2
  have hE13 := hE12.trans hE3
  have n1 : b ≠ b2 := fun q => by rw [← q, hH1] at hb2; cases hb2
  have n2 : b3 ≠ b2 := fun q => by rw [q, hH2] at hb3; cases hb3
  have l1 := digs_length p m.toNat x
  have l2 := digs_length p m.toNat y
  have r1 := digs_rng (show 0 < p by omega) m.toNat x
  have r2 := digs_rng (show 0 < p by omega) m.toNat y
  generalize ha : digs p m.toNat x = a at *
  generalize hb : digs p m.toNat y = c at *
  have lT : (addL p a c).length = a.length := tab_length _ _
  simp (disch := first | assumption | omega) only [↓RP, RQ, TY, loadT, reduceIte, Nat.reduceEqDiff, Nat.reduceAdd, hb'']
  refine sw_loop (σ := Nat) (fun i e H' => e 9 = .int .i64 i ∧ e 7 = .sl b2 0 m.toNat (.own 1) ∧ e 8 = .sl b3 0 m.toNat (.own 1) ∧ e 3 = .ptr b 0 ∧ i ≤ m.toNat ∧ H' b = .rw [.int .i64 p, .int .i64 m, md] ∧ Ext H H' ∧ H' b3 = .rw (ints c) ∧ H' b2 = .rw (ints (mix (addL p a c) a i))) (fun i => m.toNat - i) 0 ?_ ?_
  · simp (disch := first | assumption | omega) only [↓RP, RQ, TY, loadT, reduceIte, Nat.reduceEqDiff, Nat.reduceAdd, mix_zero]
    exact ⟨by omega, hb'', hE13, hH3, hH2'⟩
  rintro i e H' ⟨e9, e7, e8, e3, hi, hpb, hE, h3, h2⟩
  have lM := mix_length lT i
  by_cases hlt : (i : Int) < m
  · have t1 := r1 i
    have t2 := r2 i
    have t3 : (mix (addL p a c) a i).getD i 0 = a.getD i 0 := mix_get lT (Nat.le_refl i)
    simp (disch := first | assumption | omega) only [↓RP, RQ, TY, loadT, reduceIte, Nat.reduceEqDiff, Nat.reduceAdd, e9, e7, e8, e3, hlt, hpb, h3, h2, t3]
    refine ⟨i + 1, ?_, by dsimp only; omega⟩
    simp (disch := first | assumption | omega) only [↓RP, RQ, TY, loadT, reduceIte, Nat.reduceEqDiff, Nat.reduceAdd, e9, e7, e8, e3, hpb, h3]
    refine ⟨by omega, hE.upd (hE1.free hb2) _, ?_⟩
    rw [← mix_set lT (show i < a.length by omega), addL, tab_get (show i < a.length by omega)]
  · simp (disch := first | assumption | omega) only [↓RP, RQ, TY, loadT, reduceIte, Nat.reduceEqDiff, Nat.reduceAdd, e9, e7, e8, e3, hlt, hpb, h3, h2]
    have hT : Rng p (addL p a c) := tab_rng (by omega) fun i _ => ⟨Int.emod_nonneg _ (by omega), Int.emod_lt_of_pos _ (by omega)⟩
    rw [mix_full lT (show a.length ≤ i by omega)] at h2
    refine c_Value04 o1 (Sl.own h2 (by rw [ints_length, lT, l1])) hT o6 (by omega) (by rw [lT, l1]; exact o4) fun H4 hE4 => ?_
    simp (disch := first | assumption | omega) only [↓RP, RQ, TY, loadT, reduceIte, Nat.reduceEqDiff, Nat.reduceAdd]
    have := hQ H4 (hE.trans hE4)
    rwa [fadd, ha, hb] at this
theorem c_Neg04 {p m x : Int} {md : AV} {H : AH} {Q : AV → AH → Prop} (hx : 0 ≤ x) (hx' : x < ordr p m)
    (hQ : ∀ H', Ext H H' → Q (.int .i64 (fneg p m x)) H') : AC Try.prog 93 [.agg [.int .i64 p, .int .i64 m, md], .int .i64 x] H Q := by
  have ho : ordr p m ≠ 0 := by omega
  obtain ⟨o1, o2, o3, o4, o5⟩ := ordr_pos ho
  have o6 := ordr_p ho
  refine at93 (by simp) ?_
  simp (disch := first | assumption | omega) only [↓RP, RQ, TY, loadT, s93, reduceIte, Nat.reduceEqDiff, Nat.reduceAdd]
  refine kNew_intro fun b H1 hb hE1 hH1 => ?_
  simp (disch := first | assumption | omega) only [↓RP, RQ, TY, loadT, reduceIte, Nat.reduceEqDiff, Nat.reduceAdd, hH1]
  refine c_Digits04 hx hx' fun b2 H2 hb2 hE2 hH2 => ?_
  have hb' := hE2.rw hH1
  have hE12 := hE1.trans hE2
  have n1 : b ≠ b2 := fun q => by rw [← q, hH1] at hb2; cases hb2
  have l1 := digs_length p m.toNat x
  have r1 := digs_rng (show 0 < p by omega) m.toNat x
  generalize ha : digs p m.toNat x = a at *
  have lT : (negL p a).length = a.length := tab_length _ _
  simp (disch := first | assumption | omega) only [↓RP, RQ, TY, loadT, reduceIte, Nat.reduceEqDiff, Nat.reduceAdd, hb']
  refine sw_loop (σ := Nat) (fun i e H' => e 6 = .int .i64 i ∧ e 5 = .sl b2 0 m.toNat (.own 1) ∧ e 2 = .ptr b 0 ∧ i ≤ m.toNat ∧ H' b = .rw [.int .i64 p, .int .i64 m, md] ∧ Ext H H' ∧ H' b2 = .rw (ints (mix (negL p a) a i))) (fun i => m.toNat - i) 0 ?_ ?_
  · simp (disch := first | assumption | omega) only [↓RP, RQ, TY, loadT, reduceIte, Nat.reduceEqDiff, Nat.reduceAdd, mix_zero]
    exact ⟨by omega, hb', hE12, hH2⟩
  rintro i e H' ⟨e6, e5, e2, hi, hpb, hE, h2⟩
  have lM := mix_length lT i
  by_cases hlt : (i : Int) < m
  · have t1 := r1 i
    have t3 : (mix (negL p a) a i).getD i 0 = a.getD i 0 := mix_get lT (Nat.le_refl i)
    simp (disch := first | assumption | omega) only [↓RP, RQ, TY, loadT, reduceIte, Nat.reduceEqDiff, Nat.reduceAdd, e6, e5, e2, hlt, hpb, h2, t3]
    refine ⟨i + 1, ?_, by dsimp only; omega⟩
    simp (disch := first | assumption | omega) only [↓RP, RQ, TY, loadT, reduceIte, Nat.reduceEqDiff, Nat.reduceAdd, e6, e5, e2, hpb]
    refine ⟨by omega, hE.upd (hE1.free hb2) _, ?_⟩
    rw [← mix_set lT (show i < a.length by omega), negL, tab_get (show i < a.length by omega)]
  · simp (disch := first | assumption | omega) only [↓RP, RQ, TY, loadT, reduceIte, Nat.reduceEqDiff, Nat.reduceAdd, e6, e5, e2, hlt, hpb, h2]
    have hT : Rng p (negL p a) := tab_rng (by omega) fun i _ => ⟨Int.emod_nonneg _ (by omega), Int.emod_lt_of_pos _ (by omega)⟩
    rw [mix_full lT (show a.length ≤ i by omega)] at h2
    refine c_Value04 o1 (Sl.own h2 (by rw [ints_length, lT, l1])) hT o6 (by omega) (by rw [lT, l1]; exact o4) fun H4 hE4 => ?_
    simp (disch := first | assumption | omega) only [↓RP, RQ, TY, loadT, reduceIte, Nat.reduceEqDiff, Nat.reduceAdd]
    have := hQ H4 (hE.trans hE4)
    rwa [fneg, ha] at this
end Go.Proofs.Yteijojnahpeglaa.AM
/-! The reference's field, sixth part: products. -/
namespace Go.Proofs.Yteijojnahpeglaa.AM
open Go Go.RowKit
set_option linter.unusedVariables false
set_option linter.unusedSimpArgs false
set_option maxRecDepth 20000
def mulIn (p : Int) (a b : List Int) (i j : Nat) (c : List Int) : List Int := c.set (i + j) ((c.getD (i + j) 0 + a.getD i 0 * b.getD j 0) % p)
def mulP (p : Int) (n : Nat) (a b : List Int) : List Int := upto (fun i c => upto (mulIn p a b i) n c) n (List.replicate (2 * n - 1) 0)
def redIn (p : Int) (n : Nat) (mod : List Int) (i j : Nat) (c : List Int) : List Int := c.set (i - n + j) ((c.getD (i - n + j) 0 + (p - c.getD i 0) * mod.getD j 0) % p)
def redP (p : Int) (n : Nat) (mod c : List Int) : List Int := upto (fun k c => upto (redIn p n mod (2 * n - 2 - k)) n c) (n - 1) c
/-- the product of two residues -/
def fmul (p m : Int) (mod : List Int) (x y : Int) : Int := val p ((redP p m.toNat mod (mulP p m.toNat (digs p m.toNat x) (digs p m.toNat y))).take m.toNat)
theorem upto_ok {p : Int} {L : Nat} (f : Nat → List Int → List Int) (hf : ∀ i c, c.length = L ∧ Rng p c → (f i c).length = L ∧ Rng p (f i c)) {c : List Int} (hc : c.length = L ∧ Rng p c) : ∀ n, (upto f n c).length = L ∧ Rng p (upto f n c)
  | 0 => hc
  | n + 1 => hf n _ (upto_ok f hf hc n)
theorem mulIn_ok {p : Int} (hp : 0 < p) {L : Nat} (a b : List Int) (i j : Nat) (c : List Int) (hc : c.length = L ∧ Rng p c) : (mulIn p a b i j c).length = L ∧ Rng p (mulIn p a b i j c) :=
  ⟨by rw [mulIn, List.length_set, hc.1], hc.2.set (Int.emod_nonneg _ (by omega)) (Int.emod_lt_of_pos _ hp) _⟩
theorem redIn_ok {p : Int} (hp : 0 < p) {L n : Nat} (mod : List Int) (i j : Nat) (c : List Int) (hc : c.length = L ∧ Rng p c) : (redIn p n mod i j c).length = L ∧ Rng p (redIn p n mod i j c) :=
  ⟨by rw [redIn, List.length_set, hc.1], hc.2.set (Int.emod_nonneg _ (by omega)) (Int.emod_lt_of_pos _ hp) _⟩
theorem c_Mul04 {p m x y : Int} {md : AV} {mod : List Int} {H : AH} {Q : AV → AH → Prop} (hm : Ints H md mod) (rm : Rng p mod) (lm : m ≠ 1 → (mod.length : Int) = m) (hx : 0 ≤ x) (hx' : x < ordr p m) (hy : 0 ≤ y) (hy' : y < ordr p m)
    (hQ : ∀ H', Ext H H' → Q (.int .i64 (fmul p m mod x y)) H') : AC Try.prog 108 [.agg [.int .i64 p, .int .i64 m, md], .int .i64 x, .int .i64 y] H Q := by
  have ho : ordr p m ≠ 0 := by omega
  obtain ⟨o1, o2, o3, o4, o5⟩ := ordr_pos ho
  have o6 := ordr_p ho
  have op : 0 < p := by omega
  refine at108 (by simp) ?_
  simp (disch := first | assumption | omega) only [↓RP, RQ, TY, loadT, s108, reduceIte, Nat.reduceEqDiff, Nat.reduceAdd]
  refine kNew_intro fun b H1 hb hE1 hH1 => ?_
  simp (disch := first | assumption | omega) only [↓RP, RQ, TY, loadT, reduceIte, Nat.reduceEqDiff, Nat.reduceAdd, hH1]
  refine c_Digits04 hx hx' fun b2 H2 hb2 hE2 hH2 => ?_
  have hb' := hE2.rw hH1
  have hE12 := hE1.trans hE2
  simp (disch := first | assumption | omega) only [↓RP, RQ, TY, loadT, reduceIte, Nat.reduceEqDiff, Nat.reduceAdd, hb']
  refine c_Digits04 hy hy' fun b3 H3 hb3 hE3 hH3 => ?_
  have hb'' := hE3.rw hb'
  have hH2' := hE3.rw hH2
  have hE13 := hE12.trans hE3
  have l1 := digs_length p m.toNat x
  have l2 := digs_length p m.toNat y
  have r1 := digs_rng op m.toNat x
  have r2 := digs_rng op m.toNat y
  generalize ha : digs p m.toNat x = a at *
  generalize hb : digs p m.toNat y = c at *
  simp (disch := first | assumption | omega) only [↓RP, RQ, TY, loadT, reduceIte, Nat.reduceEqDiff, Nat.reduceAdd, hb'']
  refine kNew_intro fun b4 H4 hb4 hE4 hH4 => ?_
  have hb4' := hE4.rw hb''
  have h24 := hE4.rw hH2'
  have h34 := hE4.rw hH3
  have hE14 := hE13.trans hE4
  have n1 : b ≠ b4 := fun q => by rw [← q, hb''] at hb4; cases hb4
  have n2 : b2 ≠ b4 := fun q => by rw [← q, hH2'] at hb4; cases hb4
  have n3 : b3 ≠ b4 := fun q => by rw [← q, hH3] at hb4; cases hb4
  have f4 := hE13.free hb4
  have en : (2 * m - 1).toNat = 2 * m.toNat - 1 := by omega
  rw [en, show List.replicate (2 * m.toNat - 1) (AV.int .i64 0) = ints (List.replicate (2 * m.toNat - 1) 0) by simp [ints]] at hH4
  generalize hn : m.toNat = n at *
  have hmn : m = (n : Int) := by omega
  subst hmn
  simp (disch := first | assumption | omega) only [↓RP, RQ, TY, loadT, reduceIte, Nat.reduceEqDiff, Nat.reduceAdd, en]
  have hsz0 : (List.replicate (2 * n - 1) (0 : Int)).length = 2 * n - 1 ∧ Rng p (List.replicate (2 * n - 1) 0) := ⟨by simp, Rng.rep op _⟩
  have hpos : 1 ≤ n := by omega
  refine sw_loop (σ := Nat) (fun i e H' => e 10 = .int .i64 i ∧ e 9 = .sl b4 0 (2 * n - 1) (.own 1) ∧ e 8 = .sl b3 0 n (.own 1) ∧ e 7 = .sl b2 0 n (.own 1) ∧ e 3 = .ptr b 0 ∧ i ≤ n ∧ H' b = .rw [.int .i64 p, .int .i64 n, md] ∧ Ext H H' ∧ H' b2 = .rw (ints a) ∧ H' b3 = .rw (ints c) ∧
    H' b4 = .rw (ints (upto (fun i c' => upto (mulIn p a c i) n c') i (List.replicate (2 * n - 1) 0)))) (fun i => n - i) 0 ?_ ?_
  · simp (disch := first | assumption | omega) only [↓RP, RQ, TY, loadT, reduceIte, Nat.reduceEqDiff, Nat.reduceAdd, hH4]
    exact ⟨by omega, hb4', hE14, h24, h34, rfl⟩
  rintro i e H' ⟨e10, e9, e8, e7, e3, hi, hpb, hE, h2, h3, h4⟩
  obtain ⟨s1, s2⟩ := upto_ok (L := 2 * n - 1) _ (fun i c' hc' => upto_ok _ (mulIn_ok op a c i) hc' n) hsz0 i
  generalize hR : upto (fun i c' => upto (mulIn p a c i) n c') i (List.replicate (2 * n - 1) 0) = R at *
  by_cases hlt : (i : Int) < n
  · simp (disch := first | assumption | omega) only [↓RP, RQ, TY, loadT, reduceIte, Nat.reduceEqDiff, Nat.reduceAdd, e10, e9, e8, e7, e3, hlt, hpb]
    refine sw_loop (σ := Nat) (fun j e H' => e 11 = .int .i64 j ∧ e 10 = .int .i64 i ∧ e 9 = .sl b4 0 (2 * n - 1) (.own 1) ∧ e 8 = .sl b3 0 n (.own 1) ∧ e 7 = .sl b2 0 n (.own 1) ∧ e 3 = .ptr b 0 ∧ j ≤ n ∧ H' b = .rw [.int .i64 p, .int .i64 n, md] ∧ Ext H H' ∧ H' b2 = .rw (ints a) ∧ H' b3 = .rw (ints c) ∧
      H' b4 = .rw (ints (upto (mulIn p a c i) j R))) (fun j => n - j) 0 ?_ ?_
    · simp (disch := first | assumption | omega) only [↓RP, RQ, TY, loadT, reduceIte, Nat.reduceEqDiff, Nat.reduceAdd, e10, e9, e8, e7, e3, h4]
      exact ⟨by omega, hpb, hE, h2, h3, rfl⟩
    rintro j e H' ⟨e11, e10, e9, e8, e7, e3, hj, hpb, hE, h2, h3, h4⟩
    obtain ⟨s3, s4⟩ := upto_ok _ (mulIn_ok op a c i) ⟨s1, s2⟩ j
    generalize hS : upto (mulIn p a c i) j R = S at *
    by_cases hjt : (j : Int) < n
    · have t1 := r1 i
      have t2 := r2 j
      have t3 := s4 (i + j)
      have t4 := mul_bd (a := a.getD i 0) (b := c.getD j 0) (A := 256) (B := 256) (by omega) (by omega) (by omega) (by omega)
      have i1 : ((i : Int) + (j : Int)).toNat = i + j := by omega
      simp (disch := first | assumption | omega) only [↓RP, RQ, TY, loadT, reduceIte, Nat.reduceEqDiff, Nat.reduceAdd, e11, e10, e9, e8, e7, e3, hjt, hpb, h2, h3, h4, i1]
      refine ⟨j + 1, ?_, by dsimp only; omega⟩
      simp (disch := first | assumption | omega) only [↓RP, RQ, TY, loadT, reduceIte, Nat.reduceEqDiff, Nat.reduceAdd, e11, e10, e9, e8, e7, e3, hpb, h2, h3]
      refine ⟨by omega, hE.upd f4 _, ?_⟩
      rw [upto_succ, hS]
      rfl
    · simp (disch := first | assumption | omega) only [↓RP, RQ, TY, loadT, reduceIte, Nat.reduceEqDiff, Nat.reduceAdd, e11, e10, e9, e8, e7, e3, hjt, hpb]
      refine ⟨i + 1, ?_, by dsimp only; omega⟩
      simp (disch := first | assumption | omega) only [↓RP, RQ, TY, loadT, reduceIte, Nat.reduceEqDiff, Nat.reduceAdd, e11, e10, e9, e8, e7, e3]
      refine ⟨by omega, hpb, hE, h2, h3, ?_⟩
      rw [upto_succ, hR, h4, ← hS, show j = n by omega]
  · simp (disch := first | assumption | omega) only [↓RP, RQ, TY, loadT, reduceIte, Nat.reduceEqDiff, Nat.reduceAdd, e10, e9, e8, e7, e3, hlt, hpb]
    have hin : i = n := by omega
    subst hin
    have hRR : R = mulP p i a c := hR.symm
    refine sw_loop (σ := Nat) (fun k e H' => e 12 = .int .i64 (2 * i - 2 - k : Nat) ∧ e 9 = .sl b4 0 (2 * i - 1) (.own 1) ∧ e 3 = .ptr b 0 ∧ k ≤ i - 1 ∧ H' b = .rw [.int .i64 p, .int .i64 i, md] ∧ Ext H H' ∧
      H' b4 = .rw (ints (upto (fun k c' => upto (redIn p i mod (2 * i - 2 - k)) i c') k R))) (fun k => i - k) 0 ?_ ?_
    · simp (disch := first | assumption | omega) only [↓RP, RQ, TY, loadT, reduceIte, Nat.reduceEqDiff, Nat.reduceAdd, e9, e3, h4]
      refine ⟨?_, by omega, hpb, hE, rfl⟩
      congr 1
      omega
    rintro k e H' ⟨e12, e9, e3, hk, hpb, hE, h4⟩
    obtain ⟨s3, s4⟩ := upto_ok (L := 2 * i - 1) _ (fun k c' hc' => upto_ok _ (redIn_ok op (n := i) mod (2 * i - 2 - k)) hc' i) ⟨s1, s2⟩ k
    generalize hS : upto (fun k c' => upto (redIn p i mod (2 * i - 2 - k)) i c') k R = S at *
    generalize hI : 2 * i - 2 - k = I at *
    by_cases hkt : (i : Int) ≤ (I : Int)
    · simp (disch := first | assumption | omega) only [↓RP, RQ, TY, loadT, reduceIte, Nat.reduceEqDiff, Nat.reduceAdd, e12, e9, e3, hkt, hpb]
      refine sw_loop (σ := Nat) (fun j e H' => e 13 = .int .i64 j ∧ e 12 = .int .i64 I ∧ e 9 = .sl b4 0 (2 * i - 1) (.own 1) ∧ e 3 = .ptr b 0 ∧ j ≤ i ∧ H' b = .rw [.int .i64 p, .int .i64 i, md] ∧ Ext H H' ∧
        H' b4 = .rw (ints (upto (redIn p i mod I) j S))) (fun j => i - j) 0 ?_ ?_
      · simp (disch := first | assumption | omega) only [↓RP, RQ, TY, loadT, reduceIte, Nat.reduceEqDiff, Nat.reduceAdd, e12, e9, e3, h4]
        exact ⟨by omega, hpb, hE, rfl⟩
      rintro j e H' ⟨e13, e12, e9, e3, hj, hpb, hE, h4⟩
      obtain ⟨s5, s6⟩ := upto_ok _ (redIn_ok op (n := i) mod I) ⟨s3, s4⟩ j
      generalize hT : upto (redIn p i mod I) j S = T at *
      have hm' := hm.ext hE
      by_cases hjt : (j : Int) < i
      · have lm' := lm (by omega)
        have t1 := s6 I
        have t2 := rm j
        have t3 := s6 (I - i + j)
        have t4 := mul_bd (a := p - T.getD I 0) (b := mod.getD j 0) (A := 256) (B := 256) (by omega) (by omega) (by omega) (by omega)
        have i1 : ((I : Int) - (i : Int) + (j : Int)).toNat = I - i + j := by omega
        simp (disch := first | assumption | omega) only [↓RP, RQ, TY, loadT, reduceIte, Nat.reduceEqDiff, Nat.reduceAdd, e13, e12, e9, e3, hjt, hpb, h4, i1, hm'.ints]
        refine ⟨j + 1, ?_, by dsimp only; omega⟩
        simp (disch := first | assumption | omega) only [↓RP, RQ, TY, loadT, reduceIte, Nat.reduceEqDiff, Nat.reduceAdd, e13, e12, e9, e3, hpb]
        refine ⟨by omega, hE.upd f4 _, ?_⟩
        rw [upto_succ, hT]
        rfl
      · simp (disch := first | assumption | omega) only [↓RP, RQ, TY, loadT, reduceIte, Nat.reduceEqDiff, Nat.reduceAdd, e13, e12, e9, e3, hjt, hpb]
        refine ⟨k + 1, ?_, by dsimp only; omega⟩
        simp (disch := first | assumption | omega) only [↓RP, RQ, TY, loadT, reduceIte, Nat.reduceEqDiff, Nat.reduceAdd, e13, e12, e9, e3]
        refine ⟨?_, by omega, hpb, hE, ?_⟩
        · congr 1
          omega
        · rw [upto_succ, hS, hI, h4, ← hT, show j = i by omega]
    · simp (disch := first | assumption | omega) only [↓RP, RQ, TY, loadT, reduceIte, Nat.reduceEqDiff, Nat.reduceAdd, e12, e9, e3, hkt, hpb]
      have hSS : S = redP p i mod (mulP p i a c) := by rw [redP, ← hRR, ← hS, show k = i - 1 by omega]
      have t5 : Rng p (S.take i) := fun q => by
        by_cases hq : q < i
        · have := s4 q
          simpa [List.getD_eq_getElem?_getD, List.getElem?_take, hq] using this
        · rw [List.getD_eq_getElem?_getD, List.getElem?_eq_none (by simp; omega)]
          exact ⟨by simp, by simpa using op⟩
      have t6 : (S.take i).length = i := by simp; omega
      refine c_Value04 (ds := S.take i) o1 (by rw [Ints, ints, List.map_take]; exact Sl.take h4 (by rw [List.length_map]; omega)) t5 o6 (by omega) (by rw [t6]; exact o4) fun H5 hE5 => ?_
      simp (disch := first | assumption | omega) only [↓RP, RQ, TY, loadT, reduceIte, Nat.reduceEqDiff, Nat.reduceAdd]
      have := hQ H5 (hE.trans hE5)
      rwa [fmul, hn, ha, hb, ← hSS] at this
end Go.Proofs.Yteijojnahpeglaa.AM
/-! The reference's field, seventh part: inverses. -/
namespace Go.Proofs.Yteijojnahpeglaa.AM
open Go Go.RowKit
set_option linter.unusedVariables false
set_option linter.unusedSimpArgs false
set_option maxRecDepth 20000
/-- v is the least inverse of x, or 0 -/
def IsInv (p m : Int) (mod : List Int) (x v : Int) : Prop :=
  (1 ≤ v ∧ v < ordr p m ∧ fmul p m mod x v = 1) ∨ (v = 0 ∧ ∀ y, 1 ≤ y → y < ordr p m → fmul p m mod x y ≠ 1)
theorem c_Inv04 {p m x : Int} {md : AV} {mod : List Int} {H : AH} {Q : AV → AH → Prop} (hm : Ints H md mod) (rm : Rng p mod) (lm : m ≠ 1 → (mod.length : Int) = m) (hx : 0 ≤ x) (hx' : x < ordr p m)
    (hQ : ∀ v H', Ext H H' → IsInv p m mod x v → Q (.int .i64 v) H') : AC Try.prog 91 [.agg [.int .i64 p, .int .i64 m, md], .int .i64 x] H Q := by
  have ho : ordr p m ≠ 0 := by omega
  obtain ⟨o1, o2, o3, o4, o5⟩ := ordr_pos ho
  refine at91 (by simp) ?_
  simp (disch := first | assumption | omega) only [↓RP, RQ, TY, loadT, s91, reduceIte, Nat.reduceEqDiff, Nat.reduceAdd]
  refine kNew_intro fun b H1 hb hE1 hH1 => ?_
  simp (disch := first | assumption | omega) only [↓RP, RQ, TY, loadT, reduceIte, Nat.reduceEqDiff, Nat.reduceAdd, hH1]
  refine sw_loop (σ := Nat) (fun y e H' => e 5 = .int .i64 y ∧ e 1 = .int .i64 x ∧ e 2 = .ptr b 0 ∧ 1 ≤ y ∧ (y : Int) ≤ ordr p m ∧ H' b = .rw [.int .i64 p, .int .i64 m, md] ∧ Ext H H' ∧ ∀ z : Int, 1 ≤ z → z < y → fmul p m mod x z ≠ 1) (fun y => (ordr p m).toNat - y) 1 ?_ ?_
  · simp (disch := first | assumption | omega) only [↓RP, RQ, TY, loadT, reduceIte, Nat.reduceEqDiff, Nat.reduceAdd]
    exact ⟨rfl, by omega, by omega, hH1, hE1, fun z h1 h2 => by omega⟩
  rintro y e H' ⟨e5, e1, e2, hy, hy', hpb, hE, hz⟩
  simp (disch := first | assumption | omega) only [↓RP, RQ, TY, loadT, reduceIte, Nat.reduceEqDiff, Nat.reduceAdd, e5, e1, e2, hpb]
  refine c_Order fun H2 hE2 => ?_
  have hpb2 := hE2.rw hpb
  have hE12 := hE.trans hE2
  by_cases hlt : (y : Int) < ordr p m
  · simp (disch := first | assumption | omega) only [↓RP, RQ, TY, loadT, reduceIte, Nat.reduceEqDiff, Nat.reduceAdd, e5, e1, e2, hpb2, hlt]
    refine c_Mul04 (hm.ext hE12) rm lm hx hx' (by omega) hlt fun H3 hE3 => ?_
    have hpb3 := hE3.rw hpb2
    by_cases h1 : fmul p m mod x y = 1
    · simp (disch := first | assumption | omega) only [↓RP, RQ, TY, loadT, reduceIte, Nat.reduceEqDiff, Nat.reduceAdd, e5, h1]
      exact hQ _ _ (hE12.trans hE3) (.inl ⟨by omega, hlt, h1⟩)
    · simp (disch := first | assumption | omega) only [↓RP, RQ, TY, loadT, reduceIte, Nat.reduceEqDiff, Nat.reduceAdd, e5, h1]
      refine ⟨y + 1, ?_, by dsimp only; omega⟩
      simp (disch := first | assumption | omega) only [↓RP, RQ, TY, loadT, reduceIte, Nat.reduceEqDiff, Nat.reduceAdd, e5, e1, e2]
      refine ⟨by omega, by omega, hpb3, hE12.trans hE3, fun z h2 h3 => ?_⟩
      by_cases hzy : z = y
      · rw [hzy]; exact h1
      · exact hz z h2 (by omega)
  · simp (disch := first | assumption | omega) only [↓RP, RQ, TY, loadT, reduceIte, Nat.reduceEqDiff, Nat.reduceAdd, e5, e1, e2, hpb2, hlt]
    exact hQ _ _ hE12 (.inr ⟨rfl, fun z h2 h3 => hz z h2 (by omega)⟩)
end Go.Proofs.Yteijojnahpeglaa.AM
/-! The reference's matrices, first part: rows, sums, comparisons. -/
namespace Go.Proofs.Yteijojnahpeglaa.AM
open Go Go.RowKit
set_option linter.unusedVariables false
set_option linter.unusedSimpArgs false
set_option maxRecDepth 20000
open Classical in
noncomputable def finv (p m : Int) (mod : List Int) (x : Int) : Int := if h : ∃ v, 1 ≤ v ∧ v < ordr p m ∧ fmul p m mod x v = 1 then Classical.choose h else 0
/-- the operations of the field p, m, mod -/
noncomputable def fF (p m : Int) (mod : List Int) : FOps := ⟨ordr p m, fadd p m, fmul p m mod, fneg p m, finv p m mod⟩
/-- a field's description in the heap -/
structure FA (H : AH) (p m : Int) (md : AV) (mod : List Int) : Prop where
  hm : Ints H md mod
  rm : Rng p mod
  lm : m ≠ 1 → (mod.length : Int) = m
  ok : (fF p m mod).Ok
theorem FA.ext {H H' : AH} {p m : Int} {md : AV} {mod : List Int} (h : FA H p m md mod) (hE : Ext H H') : FA H' p m md mod := ⟨h.hm.ext hE, h.rm, h.lm, h.ok⟩
theorem FA.ho {H : AH} {p m : Int} {md : AV} {mod : List Int} (h : FA H p m md mod) : ordr p m ≠ 0 := fun q => by
  have : 2 ≤ ordr p m := h.ok.q2
  omega
theorem isInv_eq {p m x v : Int} {mod : List Int} (ok : (fF p m mod).Ok) (hx : (fF p m mod).El x) (h0 : x ≠ 0) (h : IsInv p m mod x v) : v = finv p m mod x := by
  letI := ok.fd
  have h1 : fmul p m mod x (finv p m mod x) = 1 := ok.mul_inv hx h0
  have e1 : (fF p m mod).El (finv p m mod x) := ok.inv_el hx
  have uni : ∀ w, (fF p m mod).El w → fmul p m mod x w = 1 → w = finv p m mod x := fun w hw h2 => by
    apply ok.k_inj hw e1
    have a1 : Fd.mul (ok.k x) (ok.k w) = Fd.u := by rw [← ok.k_mul hx hw, ← ok.k_one]; exact congrArg ok.k h2
    have a2 : Fd.mul (ok.k x) (ok.k (finv p m mod x)) = Fd.u := by rw [← ok.k_mul hx e1, ← ok.k_one]; exact congrArg ok.k h1
    rw [Fd.inv_of a1, Fd.inv_of a2]
  rcases h with h | h
  · exact uni v ⟨by omega, h.2.1⟩ h.2.2
  · exfalso
    refine h.2 (finv p m mod x) ?_ e1.2 h1
    have h2 := e1.1
    by_cases hz : finv p m mod x = 0
    · exfalso
      rw [hz] at h1
      have a1 : Fd.mul (ok.k x) Fd.z = Fd.u := by rw [← ok.k_zero, ← ok.k_mul hx ok.el0, ← ok.k_one]; exact congrArg ok.k h1
      rw [Fd.mul_z] at a1
      exact Fd.u_ne a1.symm
    · omega

/-- what the runner wants to know of a slice -/
theorem Sl.run {H : AH} {v : AV} {us : List AV} (h : Sl H v us) : (∀ {P : Program} {r : Rst} {e : Env} {H : AH} {K : Kt} {d : Option Nat} {t : Nat}, kLen P (some t) r e H K d v = kPut P r e H K d (.int .i64 us.length)) ∧
    (∀ {P : Program} {r : Rst} {e : Env} {H : AH} {K : Kt} {d : Option Nat} {k : IntKind} {j : Int}, 0 ≤ j → j < us.length → kIdx P (some 1) r e H K d v (.int k j) = kPut P r e H K d (.ptr (slB v) (slO v + j.toNat))) ∧
    (∀ {i : Nat}, i < us.length → slotCell (H (slB v)) (slO v + i) = some (us.getD i .junk)) := by
  refine ⟨?_, ?_, ?_⟩
  · intro P r e H2 K d t
    rcases h with ⟨rfl, rfl⟩ | ⟨b, o, c, rfl, -⟩ <;> simp [kLen, kPut]
  · intro P r e H2 K d k j h0 h1
    rcases h with ⟨rfl, rfl⟩ | ⟨b, o, c, rfl, -⟩
    · simp at h1; omega
    · simp [kIdx, kPut, h0, h1, slB, slO]
  · intro i hi
    rw [← u_cell, h.at hi]
theorem Sl.one {H : AH} {v : AV} {us : List AV} (h : Sl H v us) : v.one = true := by
  rcases h with ⟨rfl, rfl⟩ | ⟨b, o, c, rfl, -⟩ <;> rfl
/-- v is a slice of the rows xss; us are the row slices. -/
structure Rows (H : AH) (v : AV) (us : List AV) (xss : List (List Int)) : Prop where
  sl : Sl H v us
  len : us.length = xss.length
  row : ∀ i, i < xss.length → Ints H (us.getD i .junk) (rowAt xss i)
theorem Rows.ext {H H' : AH} {v : AV} {us : List AV} {xss : List (List Int)} (h : Rows H v us xss) (hE : Ext H H') : Rows H' v us xss := ⟨h.sl.ext hE, h.len, fun i hi => (h.row i hi).ext hE⟩
theorem Rows.run {H : AH} {v : AV} {us : List AV} {xss : List (List Int)} (h : Rows H v us xss) : (∀ {P : Program} {r : Rst} {e : Env} {H : AH} {K : Kt} {d : Option Nat} {t : Nat}, kLen P (some t) r e H K d v = kPut P r e H K d (.int .i64 xss.length)) ∧
    (∀ {P : Program} {r : Rst} {e : Env} {H : AH} {K : Kt} {d : Option Nat} {k : IntKind} {j : Int}, 0 ≤ j → j < xss.length → kIdx P (some 1) r e H K d v (.int k j) = kPut P r e H K d (.ptr (slB v) (slO v + j.toNat))) ∧
    (∀ {i : Nat}, i < xss.length → slotCell (H (slB v)) (slO v + i) = some (us.getD i .junk)) := by
  rw [← h.len]; exact h.sl.run

open Classical in
theorem c_SameInts {a b : AV} {xs ys : List Int} {H : AH} {Q : AV → AH → Prop} (ha : Ints H a xs) (hb : Ints H b ys) (hl : xs.length ≤ 9223372036854775807) (hl2 : ys.length ≤ 9223372036854775807)
    (hQ : Q (.bool (decide (xs = ys))) H) : AC Try.prog 72 [a, b] H Q := by
  refine at72 (by simp) ?_
  by_cases hlen : (xs.length : Int) = (ys.length : Int)
  rotate_left
  · simp (disch := first | assumption | omega) only [↓RP, RQ, TY, loadT, s72, reduceIte, Nat.reduceEqDiff, Nat.reduceAdd, ha.ints, hb.ints, hlen]
    rwa [decide_eq_false (fun q => hlen (by rw [q]))] at hQ
  simp (disch := first | assumption | omega) only [↓RP, RQ, TY, loadT, s72, reduceIte, Nat.reduceEqDiff, Nat.reduceAdd, ha.ints, hb.ints, hlen]
  refine sw_loop (σ := Nat) (fun i e H' => e 5 = .int .i64 i ∧ e 0 = a ∧ e 1 = b ∧ i ≤ xs.length ∧ H' = H ∧ ∀ j, j < i → xs.getD j 0 = ys.getD j 0) (fun i => xs.length - i) 0 ?_ ?_
  · simp (disch := first | assumption | omega) only [↓RP, RQ, TY, loadT, reduceIte, Nat.reduceEqDiff, Nat.reduceAdd]
    exact ⟨by omega, fun j hj => by omega⟩
  rintro i e H' ⟨e5, e0, e1, hi, rfl, hj⟩
  by_cases hlt : (i : Int) < xs.length
  · by_cases heq : xs.getD i 0 = ys.getD i 0
    · simp (disch := first | assumption | omega) only [↓RP, RQ, TY, loadT, reduceIte, Nat.reduceEqDiff, Nat.reduceAdd, e5, e0, e1, hlt, ha.ints, hb.ints, heq]
      refine ⟨i + 1, ?_, by dsimp only; omega⟩
      simp (disch := first | assumption | omega) only [↓RP, RQ, TY, loadT, reduceIte, Nat.reduceEqDiff, Nat.reduceAdd, e5, e0, e1]
      refine ⟨by omega, fun j h => ?_⟩
      by_cases hji : j = i
      · rw [hji]; exact heq
      · exact hj j (by omega)
    · simp (disch := first | assumption | omega) only [↓RP, RQ, TY, loadT, reduceIte, Nat.reduceEqDiff, Nat.reduceAdd, e5, e0, e1, hlt, ha.ints, hb.ints, heq]
      rwa [decide_eq_false (fun q => heq (by rw [q]))] at hQ
  · simp (disch := first | assumption | omega) only [↓RP, RQ, TY, loadT, reduceIte, Nat.reduceEqDiff, Nat.reduceAdd, e5, e0, e1, hlt, ha.ints, hb.ints]
    rwa [decide_eq_true] at hQ
    refine List.ext_getElem (by omega) fun j h1 h2 => ?_
    have := hj j (by omega)
    simpa [List.getD_eq_getElem?_getD, h1, h2] using this
open Classical in
theorem c_SameRows {a b : AV} {us ws : List AV} {xs ys : List (List Int)} {H : AH} {Q : AV → AH → Prop} (ha : Rows H a us xs) (hb : Rows H b ws ys) (hl : xs.length ≤ 9223372036854775807) (hl2 : ys.length ≤ 9223372036854775807)
    (h1 : ∀ i, i < xs.length → (rowAt xs i).length ≤ 9223372036854775807) (h2 : ∀ i, i < ys.length → (rowAt ys i).length ≤ 9223372036854775807)
    (hQ : Q (.bool (decide (xs = ys))) H) : AC Try.prog 55 [a, b] H Q := by
  refine at55 (by simp) ?_
  by_cases hlen : (xs.length : Int) = (ys.length : Int)
  rotate_left
  · simp (disch := first | assumption | omega) only [↓RP, RQ, TY, loadT, s55, reduceIte, Nat.reduceEqDiff, Nat.reduceAdd, ha.run, hb.run, hlen]
    rwa [decide_eq_false (fun q => hlen (by rw [q]))] at hQ
  simp (disch := first | assumption | omega) only [↓RP, RQ, TY, loadT, s55, reduceIte, Nat.reduceEqDiff, Nat.reduceAdd, ha.run, hb.run, hlen]
  refine sw_loop (σ := Nat) (fun i e H' => e 5 = .int .i64 i ∧ e 0 = a ∧ e 1 = b ∧ i ≤ xs.length ∧ H' = H ∧ ∀ j, j < i → rowAt xs j = rowAt ys j) (fun i => xs.length - i) 0 ?_ ?_
  · simp (disch := first | assumption | omega) only [↓RP, RQ, TY, loadT, reduceIte, Nat.reduceEqDiff, Nat.reduceAdd]
    exact ⟨by omega, fun j hj => by omega⟩
  rintro i e H' ⟨e5, e0, e1, hi, rfl, hj⟩
  by_cases hlt : (i : Int) < xs.length
  · simp (disch := first | assumption | omega) only [↓RP, RQ, TY, loadT, reduceIte, Nat.reduceEqDiff, Nat.reduceAdd, e5, e0, e1, hlt, ha.run, hb.run]
    refine c_SameInts (ha.row i (by omega)) (hb.row i (by omega)) (h1 i (by omega)) (h2 i (by omega)) ?_
    by_cases heq : rowAt xs i = rowAt ys i
    · simp (disch := first | assumption | omega) only [↓RP, RQ, TY, loadT, reduceIte, Nat.reduceEqDiff, Nat.reduceAdd, e5, e0, e1, heq, ha.run, hb.run]
      refine ⟨i + 1, ?_, by dsimp only; omega⟩
      simp (disch := first | assumption | omega) only [↓RP, RQ, TY, loadT, reduceIte, Nat.reduceEqDiff, Nat.reduceAdd, e5, e0, e1]
      refine ⟨by omega, fun j h => ?_⟩
      by_cases hji : j = i
      · rw [hji]; exact heq
      · exact hj j (by omega)
    · simp (disch := first | assumption | omega) only [↓RP, RQ, TY, loadT, reduceIte, Nat.reduceEqDiff, Nat.reduceAdd, heq, ha.run, hb.run]
      rwa [decide_eq_false (fun q => heq (by rw [q]))] at hQ
  · simp (disch := first | assumption | omega) only [↓RP, RQ, TY, loadT, reduceIte, Nat.reduceEqDiff, Nat.reduceAdd, e5, e0, e1, hlt, ha.run, hb.run]
    rwa [decide_eq_true] at hQ
    refine List.ext_getElem (by omega) fun j h1 h2 => ?_
    have := hj j (by omega)
    simpa [rowAt, List.getD_eq_getElem?_getD, h1, h2] using this
/-- all entries are elements -/
def AllEl (p m : Int) (xs : List Int) : Prop := ∀ i, i < xs.length → 0 ≤ xs.getD i 0 ∧ xs.getD i 0 < ordr p m
open Classical in
theorem c_Entries {p m : Int} {md v : AV} {xs : List Int} {H : AH} {Q : AV → AH → Prop} (hv : Ints H v xs) (hl : xs.length ≤ 9223372036854775807)
    (hQ : ∀ H', Ext H H' → Q (.int .i64 (if AllEl p m xs then 0 else 2)) H') : AC Try.prog 70 [.agg [.int .i64 p, .int .i64 m, md], v] H Q := by
  refine at70 (by simp) ?_
  simp (disch := first | assumption | omega) only [↓RP, RQ, TY, loadT, s70, reduceIte, Nat.reduceEqDiff, Nat.reduceAdd]
  refine kNew_intro fun b H1 hb hE hH1 => ?_
  simp (disch := first | assumption | omega) only [↓RP, RQ, TY, loadT, reduceIte, Nat.reduceEqDiff, Nat.reduceAdd]
  refine sw_loop (σ := Nat) (fun i e H' => e 5 = .int .i64 i ∧ e 1 = v ∧ e 2 = .ptr b 0 ∧ i ≤ xs.length ∧ Ext H H' ∧ H' b = .rw [.int .i64 p, .int .i64 m, md] ∧ ∀ j, j < i → 0 ≤ xs.getD j 0 ∧ xs.getD j 0 < ordr p m) (fun i => xs.length - i) 0 ?_ ?_
  · simp (disch := first | assumption | omega) only [↓RP, RQ, TY, loadT, reduceIte, Nat.reduceEqDiff, Nat.reduceAdd]
    exact ⟨by omega, hE, hH1, fun j hj => by omega⟩
  rintro i e H' ⟨e5, e1, e2, hi, hE', hb', hj⟩
  have hv' := hv.ext hE'
  by_cases hlt : (i : Int) < xs.length
  · simp (disch := first | assumption | omega) only [↓RP, RQ, TY, loadT, reduceIte, Nat.reduceEqDiff, Nat.reduceAdd, e5, e1, e2, hlt, hv'.ints, hb']
    refine c_Is04 fun H2 hE2 => ?_
    have hb2 := hE2.rw hb'
    have hv2 := hv'.ext hE2
    by_cases hc : 0 ≤ xs.getD i 0 ∧ xs.getD i 0 < ordr p m
    · simp (disch := first | assumption | omega) only [↓RP, RQ, TY, loadT, reduceIte, Nat.reduceEqDiff, Nat.reduceAdd, e5, e1, e2, hc, hv2.ints, hb2]
      refine ⟨i + 1, ?_, by dsimp only; omega⟩
      simp (disch := first | assumption | omega) only [↓RP, RQ, TY, loadT, reduceIte, Nat.reduceEqDiff, Nat.reduceAdd, e5, e1, e2]
      refine ⟨by omega, hE'.trans hE2, hb2, fun j h => ?_⟩
      by_cases hji : j = i
      · rw [hji]; exact hc
      · exact hj j (by omega)
    · simp (disch := first | assumption | omega) only [↓RP, RQ, TY, loadT, reduceIte, Nat.reduceEqDiff, Nat.reduceAdd, e5, e1, e2, hc, hv2.ints, hb2]
      have := hQ H2 (hE'.trans hE2)
      rwa [if_neg (fun q => hc (q i (by omega)))] at this
  · simp (disch := first | assumption | omega) only [↓RP, RQ, TY, loadT, reduceIte, Nat.reduceEqDiff, Nat.reduceAdd, e5, e1, e2, hlt, hv'.ints]
    have := hQ H' hE'
    rwa [if_pos (show AllEl p m xs from fun j hj' => hj j (by omega))] at this
end Go.Proofs.Yteijojnahpeglaa.AM
/-! The reference's matrices, second part: scale, AddTo, Pick, Copy. -/
namespace Go.Proofs.Yteijojnahpeglaa.AM
open Go Go.RowKit
set_option linter.unusedVariables false
set_option linter.unusedSimpArgs false
set_option maxRecDepth 20000
theorem rep_length {n : Nat} {x : Int} : (List.replicate n x).length = n := by simp
theorem ints_repl {n : Nat} {x : Int} : List.replicate n (AV.int .i64 x) = ints (List.replicate n x) := by simp [ints]
theorem c_scale {p m a : Int} {md v : AV} {mod xs : List Int} {H : AH} {Q : AV → AH → Prop} (hf : FA H p m md mod) (ha : (fF p m mod).El a) (hv : Ints H v xs) (hl : xs.length ≤ 1000) (he : ∀ i, (fF p m mod).El (xs.getD i 0))
    (hQ : ∀ b H', H b = .free → Ext H H' → H' b = .rw (ints (scaleL (fF p m mod) a xs)) → Q (.sl b 0 xs.length (.own 1)) H') :
    AC Try.prog 90 [.agg [.int .i64 p, .int .i64 m, md], .int .i64 a, v] H Q := by
  refine at90 (by simp) ?_
  simp (disch := first | assumption | omega) only [↓RP, RQ, TY, loadT, s90, reduceIte, Nat.reduceEqDiff, Nat.reduceAdd, hv.ints]
  refine kNew_intro fun b H1 hb hE hH1 => ?_
  have hv1 := hv.ext hE
  simp (disch := first | assumption | omega) only [↓RP, RQ, TY, loadT, reduceIte, Nat.reduceEqDiff, Nat.reduceAdd, hv1.ints]
  refine kNew_intro fun b2 H2 hb2 hE2 hH2 => ?_
  have hH12 := hE2.rw hH1
  have hE12 := hE.trans hE2
  have f2 := hE.free hb2
  have n1 : b ≠ b2 := fun q => by rw [← q, hH1] at hb2; cases hb2
  rw [ints_repl] at hH2
  have lT : (scaleL (fF p m mod) a xs).length = (List.replicate xs.length (0 : Int)).length := by rw [scaleL_length, rep_length]
  simp (disch := first | assumption | omega) only [↓RP, RQ, TY, loadT, reduceIte, Nat.reduceEqDiff, Nat.reduceAdd]
  refine sw_loop (σ := Nat) (fun i e H' => e 8 = .int .i64 i ∧ e 7 = .sl b2 0 xs.length (.own 1) ∧ e 2 = v ∧ e 1 = .int .i64 a ∧ e 3 = .ptr b 0 ∧ i ≤ xs.length ∧ Ext H H' ∧ H' b = .rw [.int .i64 p, .int .i64 m, md] ∧
    H' b2 = .rw (ints (mix (scaleL (fF p m mod) a xs) (List.replicate xs.length 0) i))) (fun i => xs.length - i) 0 ?_ ?_
  · simp (disch := first | assumption | omega) only [↓RP, RQ, TY, loadT, reduceIte, Nat.reduceEqDiff, Nat.reduceAdd, mix_zero]
    exact ⟨by omega, hE12, hH12, hH2⟩
  rintro i e H' ⟨e8, e7, e2, e1, e3, hi, hE', hb', h2⟩
  have lM := mix_length lT i
  rw [rep_length] at lM
  have hv' := hv.ext hE'
  by_cases hlt : (i : Int) < xs.length
  · simp (disch := first | assumption | omega) only [↓RP, RQ, TY, loadT, reduceIte, Nat.reduceEqDiff, Nat.reduceAdd, e8, e7, e2, e1, e3, hlt, hb', hv'.ints]
    refine c_Mul04 (hf.hm.ext hE') hf.rm hf.lm ha.1 ha.2 (he i).1 (he i).2 fun H3 hE3 => ?_
    have hb3 := hE3.rw hb'
    have h3 := hE3.rw h2
    have hv3 := hv'.ext hE3
    simp (disch := first | assumption | omega) only [↓RP, RQ, TY, loadT, reduceIte, Nat.reduceEqDiff, Nat.reduceAdd, e8, e7, hb3, h3, hv3.ints]
    refine ⟨i + 1, ?_, by dsimp only; omega⟩
    simp (disch := first | assumption | omega) only [↓RP, RQ, TY, loadT, reduceIte, Nat.reduceEqDiff, Nat.reduceAdd, e8, e7, e2, e1, e3]
    refine ⟨by omega, (hE'.trans hE3).upd f2 _, hb3, ?_⟩
    rw [← mix_set lT (show i < _ by rw [rep_length]; omega), scaleL, tabN_getD _ (show i < xs.length by omega)]
    rfl
  · simp (disch := first | assumption | omega) only [↓RP, RQ, TY, loadT, reduceIte, Nat.reduceEqDiff, Nat.reduceAdd, e8, e7, e2, e1, e3, hlt, hv'.ints]
    rw [mix_full lT (show _ ≤ i by rw [rep_length]; omega)] at h2
    exact hQ b2 H' f2 hE' h2
theorem c_AddTo {p m a : Int} {md v w : AV} {mod xs ys : List Int} {H : AH} {Q : AV → AH → Prop} (hf : FA H p m md mod) (ha : (fF p m mod).El a) (hv : Ints H v xs) (hw : Ints H w ys) (hl : xs.length ≤ 1000) (hl2 : ys.length = xs.length)
    (he : ∀ i, (fF p m mod).El (xs.getD i 0)) (he2 : ∀ i, (fF p m mod).El (ys.getD i 0))
    (hQ : ∀ b H', H b = .free → Ext H H' → H' b = .rw (ints (addToL (fF p m mod) xs a ys)) → Q (.sl b 0 xs.length (.own 1)) H') :
    AC Try.prog 92 [.agg [.int .i64 p, .int .i64 m, md], v, .int .i64 a, w] H Q := by
  refine at92 (by simp) ?_
  simp (disch := first | assumption | omega) only [↓RP, RQ, TY, loadT, s92, reduceIte, Nat.reduceEqDiff, Nat.reduceAdd, hv.ints]
  refine kNew_intro fun b H1 hb hE hH1 => ?_
  have hv1 := hv.ext hE
  simp (disch := first | assumption | omega) only [↓RP, RQ, TY, loadT, reduceIte, Nat.reduceEqDiff, Nat.reduceAdd, hv1.ints]
  refine kNew_intro fun b2 H2 hb2 hE2 hH2 => ?_
  have hH12 := hE2.rw hH1
  have hE12 := hE.trans hE2
  have f2 := hE.free hb2
  have n1 : b ≠ b2 := fun q => by rw [← q, hH1] at hb2; cases hb2
  rw [ints_repl] at hH2
  have lT : (addToL (fF p m mod) xs a ys).length = (List.replicate xs.length (0 : Int)).length := by rw [addToL_length, rep_length]
  simp (disch := first | assumption | omega) only [↓RP, RQ, TY, loadT, reduceIte, Nat.reduceEqDiff, Nat.reduceAdd]
  refine sw_loop (σ := Nat) (fun i e H' => e 10 = .int .i64 i ∧ e 9 = .sl b2 0 xs.length (.own 1) ∧ e 1 = v ∧ e 3 = w ∧ e 2 = .int .i64 a ∧ e 4 = .ptr b 0 ∧ i ≤ xs.length ∧ Ext H H' ∧ H' b = .rw [.int .i64 p, .int .i64 m, md] ∧
    H' b2 = .rw (ints (mix (addToL (fF p m mod) xs a ys) (List.replicate xs.length 0) i))) (fun i => xs.length - i) 0 ?_ ?_
  · simp (disch := first | assumption | omega) only [↓RP, RQ, TY, loadT, reduceIte, Nat.reduceEqDiff, Nat.reduceAdd, mix_zero]
    exact ⟨by omega, hE12, hH12, hH2⟩
  rintro i e H' ⟨e10, e9, e1, e3, e2, e4, hi, hE', hb', h2⟩
  have lM := mix_length lT i
  rw [rep_length] at lM
  have hv' := hv.ext hE'
  have hw' := hw.ext hE'
  by_cases hlt : (i : Int) < xs.length
  · have l2 : i < ys.length := by omega
    have lM' : i < (mix (addToL (fF p m mod) xs a ys) (List.replicate xs.length 0) i).length := by omega
    have hE2' := hE'.upd f2 (.rw (ints ((mix (addToL (fF p m mod) xs a ys) (List.replicate xs.length 0) i).set i (xs.getD i 0))))
    have hv2 := hv.ext hE2'
    have hw2 := hw.ext hE2'
    simp (disch := first | assumption | omega) only [↓RP, RQ, TY, loadT, reduceIte, Nat.reduceEqDiff, Nat.reduceAdd, e10, e9, e1, e3, e2, e4, hlt, hb', h2, hv'.ints]
    generalize hH2' : AH.upd H' b2 (.rw (ints ((mix (addToL (fF p m mod) xs a ys) (List.replicate xs.length 0) i).set i (xs.getD i 0)))) = H2' at *
    have hb2' : H2' b = .rw [.int .i64 p, .int .i64 m, md] := by rw [← hH2']; simp only [AH.upd, n1, if_false]; exact hb'
    have h22' : H2' b2 = .rw (ints ((mix (addToL (fF p m mod) xs a ys) (List.replicate xs.length 0) i).set i (xs.getD i 0))) := by rw [← hH2']; simp [AH.upd]
    by_cases hz : ys.getD i 0 = 0
    · simp (disch := first | assumption | omega) only [↓RP, RQ, TY, loadT, reduceIte, Nat.reduceEqDiff, Nat.reduceAdd, e10, e9, e1, e3, e2, e4, hlt, hb2', hw2.ints, hz]
      refine ⟨i + 1, ?_, by dsimp only; omega⟩
      simp (disch := first | assumption | omega) only [↓RP, RQ, TY, loadT, reduceIte, Nat.reduceEqDiff, Nat.reduceAdd, e10, e9, e1, e3, e2, e4, hb2', h22']
      refine ⟨by omega, hE2', ?_⟩
      rw [← mix_set lT (show i < _ by rw [rep_length]; omega), addToL, tabN_getD _ (show i < xs.length by omega), if_neg (by simpa using hz)]
    · simp (disch := first | assumption | omega) only [↓RP, RQ, TY, loadT, reduceIte, Nat.reduceEqDiff, Nat.reduceAdd, e10, e9, e1, e3, e2, e4, hlt, hb2', hw2.ints, hv2.ints, hz]
      refine c_Mul04 (hf.hm.ext hE2') hf.rm hf.lm ha.1 ha.2 (he2 i).1 (he2 i).2 fun H3 hE3 => ?_
      have hb3 := hE3.rw hb2'
      have h3 := hE3.rw h22'
      have hv3 := hv2.ext hE3
      have hw3 := hw2.ext hE3
      have e4m : (fF p m mod).El (fmul p m mod a (ys.getD i 0)) := hf.ok.mul_el ha (he2 i)
      simp (disch := first | assumption | omega) only [↓RP, RQ, TY, loadT, reduceIte, Nat.reduceEqDiff, Nat.reduceAdd, e10, e9, e1, e3, e2, e4, hb3, h3, hv3.ints, hw3.ints]
      refine c_Add04 (he i).1 (he i).2 e4m.1 e4m.2 fun H4 hE4 => ?_
      have hb4 := hE4.rw hb3
      have h4 := hE4.rw h3
      have hv4 := hv3.ext hE4
      have hw4 := hw3.ext hE4
      have lS : i < ((mix (addToL (fF p m mod) xs a ys) (List.replicate xs.length 0) i).set i (xs.getD i 0)).length := by rw [List.length_set]; omega
      simp (disch := first | assumption | omega) only [↓RP, RQ, TY, loadT, reduceIte, Nat.reduceEqDiff, Nat.reduceAdd, e10, e9, e1, e3, e2, e4, hb4, h4, hv4.ints, hw4.ints]
      refine ⟨i + 1, ?_, by dsimp only; omega⟩
      simp (disch := first | assumption | omega) only [↓RP, RQ, TY, loadT, reduceIte, Nat.reduceEqDiff, Nat.reduceAdd, e10, e9, e1, e3, e2, e4, hb4]
      refine ⟨by omega, ((hE2'.trans hE3).trans hE4).upd f2 _, ?_⟩
      rw [List.set_set, ← mix_set lT (show i < _ by rw [rep_length]; omega), addToL, tabN_getD _ (show i < xs.length by omega), if_pos hz]
      rfl
  · simp (disch := first | assumption | omega) only [↓RP, RQ, TY, loadT, reduceIte, Nat.reduceEqDiff, Nat.reduceAdd, e10, e9, e1, e3, e2, e4, hlt, hv'.ints]
    rw [mix_full lT (show _ ≤ i by rw [rep_length]; omega)] at h2
    exact hQ b2 H' f2 hE' h2
end Go.Proofs.Yteijojnahpeglaa.AM
/-! The reference's matrices, third part: lists of rows in a block of the call's own; Pick, Copy. -/
namespace Go.Proofs.Yteijojnahpeglaa.AM
open Go Go.RowKit
set_option linter.unusedVariables false
set_option linter.unusedSimpArgs false
set_option maxRecDepth 20000
/-- a slice, or nil -/
def AV.isSl : AV → Bool
  | .nils | .sl .. => true
  | _ => false
theorem Sl.isSl {H : AH} {v : AV} {us : List AV} (h : Sl H v us) : v.isSl = true := by
  rcases h with ⟨rfl, rfl⟩ | ⟨b, o, c, rfl, -⟩ <;> rfl
theorem isSl_one {v : AV} (h : v.isSl = true) : v.one = true := by
  cases v <;> first | rfl | (simp [AV.isSl] at h)
theorem ints_keep {H H' : AH} {w : AV} {xs : List Int} (h : Ints H w xs) (hk : ∀ c o n, H.cell c o = some (.int .i64 n) → H' c = H c) : Ints H' w xs := by
  rcases h with h | ⟨b, o, c, h1, h2⟩
  · exact .inl h
  · refine .inr ⟨b, o, c, h1, fun i u hu => ?_⟩
    have h3 := h2 i u hu
    have : ∃ n, u = .int .i64 n := by
      have h4 := List.mem_of_getElem? hu
      simp only [ints, List.mem_map] at h4
      obtain ⟨a, -, rfl⟩ := h4
      exact ⟨a, rfl⟩
    obtain ⟨n, rfl⟩ := this
    simp only [AH.cell, hk b _ n h3]
    exact h3
/-- a block of slices does not hold ints -/
theorem cell_ne {H : AH} {b : Nat} {us : List AV} (hb : H b = .rw us) (hu : ∀ u, u ∈ us → u.isSl = true) {c o : Nat} {n : Int} (h : H.cell c o = some (.int .i64 n)) : c ≠ b := by
  intro q
  rw [q, AH.cell, hb] at h
  dsimp only at h
  have h1 := hu _ (List.mem_of_getElem? h)
  cases h1
theorem ints_upd {H : AH} {b : Nat} {us : List AV} (s : Slot) (hb : H b = .rw us) (hu : ∀ u, u ∈ us → u.isSl = true) {w : AV} {xs : List Int} (h : Ints H w xs) : Ints (H.upd b s) w xs :=
  ints_keep h fun c o n hc => by simp [AH.upd, cell_ne hb hu hc]
/-- the slices us are the rows l -/
structure RowsB (H : AH) (us : List AV) (l : List (List Int)) : Prop where
  len : us.length = l.length
  sl : ∀ u, u ∈ us → u.isSl = true
  row : ∀ i, i < l.length → Ints H (us.getD i .junk) (rowAt l i)
theorem RowsB.ext {H H' : AH} {us : List AV} {l : List (List Int)} (h : RowsB H us l) (hE : Ext H H') : RowsB H' us l := ⟨h.len, h.sl, fun i hi => (h.row i hi).ext hE⟩
theorem RowsB.keep {H H' : AH} {us : List AV} {l : List (List Int)} (h : RowsB H us l) (hk : ∀ w xs, Ints H w xs → Ints H' w xs) : RowsB H' us l := ⟨h.len, h.sl, fun i hi => hk _ _ (h.row i hi)⟩
theorem RowsB.set {H : AH} {us : List AV} {l : List (List Int)} {u : AV} {xs : List Int} (h : RowsB H us l) (hu : Ints H u xs) (i : Nat) : RowsB H (us.set i u) (l.set i xs) := by
  refine ⟨by simp [h.len], fun w hw => ?_, fun j hj => ?_⟩
  · rcases List.mem_or_eq_of_mem_set hw with hw | rfl
    · exact h.sl w hw
    · exact hu.isSl
  · rw [List.length_set] at hj
    rw [rowAt, getD_setN, getD_setN, h.len]
    split
    · exact hu
    · exact h.row j hj
theorem RowsB.push {H : AH} {us : List AV} {l : List (List Int)} {u : AV} {xs : List Int} (h : RowsB H us l) (hu : Ints H u xs) : RowsB H (us ++ [u]) (l ++ [xs]) := by
  refine ⟨by simp [h.len], fun w hw => ?_, fun j hj => ?_⟩
  · rcases List.mem_append.mp hw with hw | hw
    · exact h.sl w hw
    · rw [List.mem_singleton.mp hw]; exact hu.isSl
  · rw [List.length_append, List.length_singleton] at hj
    by_cases hjl : j < l.length
    · have := h.row j hjl
      simpa [rowAt, List.getD_eq_getElem?_getD, List.getElem?_append_left hjl, List.getElem?_append_left (show j < us.length by rw [h.len]; exact hjl)] using this
    · have e : j = l.length := by omega
      subst e
      simpa [rowAt, List.getD_eq_getElem?_getD, ← h.len] using hu
theorem RowsB.nil {H : AH} : RowsB H [] [] := ⟨rfl, fun u hu => by simp at hu, fun i hi => by simp at hi⟩
theorem RowsB.rows {H : AH} {v : AV} {us : List AV} {l : List (List Int)} (h : RowsB H us l) (hs : Sl H v us) : Rows H v us l := ⟨hs, h.len, h.row⟩

section
variable {P : Program} {K : Kt} {Q : APost} {e : Env} {H H0 : AH} {d : Option Nat} {r : Rst} {k k' : IntKind} {j : Int} {ds : List Nat} {t i : Nat} {x y z : AV} {us zs : List AV}
theorem u_buildS1V {v : AV} (h : v.isSl = true) : kBuildS P 1 r e H K d (some 1) (some [z]) [(0, v)] = kNew P (fun b => .sl b 0 1 (.own 1)) r e H K d [v] := u_buildS1 (isSl_one h)
theorem u_storeV {blk o : Nat} (hy : y.isSl = true) : kStore P ds (some 1) r e H K d (.ptr blk o) y = kSt P ds blk o r e H K d y (H blk) := st_one (isSl_one hy)
theorem u_stGV {blk o : Nat} {xs : List AV} (hy : y.isSl = true) (h : o < xs.length) : kSt P ds blk o r e H K d y (.rw xs) = kRet P ds r e (H.upd blk (.rw (xs.set o y))) K d (.tup []) := st_put (isSl_one hy) h
/-- append of slices to what is the call's own: slices of ints stay. -/
theorem kApp_rows {by_ : Nat} (hx : Own H0 H x zs) (hE : Ext H0 H) (hy : Sl H y us) (hz : ∀ u, u ∈ zs → u.isSl = true) (hu : ∀ u, u ∈ us → u.isSl = true) (hl : (zs.length + us.length) * by_ ≤ 140737488355328) (hl' : zs.length + us.length ≤ 140737488355328)
    (h : ∀ v H', Ext H0 H' → Own H0 H' v (zs ++ us) → (∀ w xs, Ints H w xs → Ints H' w xs) → (∀ c ws, H c = .rw ws → (∃ u, u ∈ ws ∧ u.isSl = false) → H' c = .rw ws) → kRet P ds r e H' K d v) : kApp P ds (some 1) (some by_) (some [z]) r e H K d x y := by
  obtain ⟨hc, hn⟩ := hy.cells
  refine ⟨1, by_, [z], rfl, rfl, rfl, rfl, us, hc, fun u hh => isSl_one (hu u hh), ?_⟩
  rcases hx with ⟨rfl, rfl⟩ | ⟨b, rfl, hb, h0⟩
  · rw [hn]
    refine ⟨hl, hl', by decide, fun hz => ?_, fun hz b hb => ?_⟩
    · have : us = [] := List.length_eq_zero_iff.mp hz
      subst this
      exact h _ _ hE Own.nils (fun w xs hw => hw) fun c ws hc _ => hc
    · refine h _ _ (hE.upd (hE.free hb) _) (Own.mk (by simp [AH.upd]) (hE.free hb) rfl) (fun w xs hw => hw.ext (Ext.new hb _)) fun c ws hc _ => ?_
      have hne : c ≠ b := fun q => by rw [q, hb] at hc; cases hc
      simp [AH.upd, hne, hc]
  · rw [hn]
    refine ⟨hl, hl', by decide, rfl, zs, hb, rfl, by simp, fun b' hb' => ?_⟩
    have h0' : H0 b' = .free := hb'.elim (fun q => by rw [q]; exact h0) fun q => hE.free q
    refine h _ _ ((hE.upd h0 _).upd h0' _) (Own.mk (by simp [AH.upd]) h0' (by simp)) (fun w xs hw => ints_keep hw fun c o n hc => ?_) fun c ws hc ⟨u, hu1, hu2⟩ => ?_
    · have h1 : c ≠ b := cell_ne hb hz hc
      have h2 : c ≠ b' := fun q => hb'.elim (fun q' => h1 (q.trans q')) fun q' => by rw [q, AH.cell, q'] at hc; cases hc
      simp [AH.upd, h1, h2]
    · have h1 : c ≠ b := fun q => by
        rw [q, hb] at hc
        cases hc
        rw [hz u hu1] at hu2
        cases hu2
      have h2 : c ≠ b' := fun q => hb'.elim (fun q' => h1 (q.trans q')) fun q' => by rw [q, q'] at hc; cases hc
      simp [AH.upd, h1, h2, hc]
end

/-- the entries of v at the positions set -/
def pickL (v set : List Int) : List Int := tabN set.length fun i => v.getD (set.getD i 0).toNat 0
theorem c_Pick {v s : AV} {xs set : List Int} {H : AH} {Q : AV → AH → Prop} (hv : Ints H v xs) (hs : Ints H s set) (hl : set.length ≤ 1000) (hr : ∀ i, i < set.length → 0 ≤ set.getD i 0 ∧ set.getD i 0 < xs.length)
    (hQ : ∀ b H', H b = .free → Ext H H' → H' b = .rw (ints (pickL xs set)) → Q (.sl b 0 set.length (.own 1)) H') : AC Try.prog 67 [v, s] H Q := by
  refine at67 (by simp) ?_
  simp (disch := first | assumption | omega) only [↓RP, RQ, TY, loadT, s67, reduceIte, Nat.reduceEqDiff, Nat.reduceAdd, hs.ints]
  refine kNew_intro fun b H1 hb hE hH1 => ?_
  rw [ints_repl] at hH1
  have lT : (pickL xs set).length = (List.replicate set.length (0 : Int)).length := by rw [pickL, tabN_length, rep_length]
  simp (disch := first | assumption | omega) only [↓RP, RQ, TY, loadT, reduceIte, Nat.reduceEqDiff, Nat.reduceAdd]
  refine sw_loop (σ := Nat) (fun i e H' => e 6 = .int .i64 i ∧ e 5 = .sl b 0 set.length (.own 1) ∧ e 0 = v ∧ e 1 = s ∧ i ≤ set.length ∧ Ext H H' ∧ H' b = .rw (ints (mix (pickL xs set) (List.replicate set.length 0) i))) (fun i => set.length - i) 0 ?_ ?_
  · simp (disch := first | assumption | omega) only [↓RP, RQ, TY, loadT, reduceIte, Nat.reduceEqDiff, Nat.reduceAdd, mix_zero]
    exact ⟨by omega, hE, hH1⟩
  rintro i e H' ⟨e6, e5, e0, e1, hi, hE', hb'⟩
  have lM := mix_length lT i
  rw [rep_length] at lM
  have hv' := hv.ext hE'
  have hs' := hs.ext hE'
  by_cases hlt : (i : Int) < set.length
  · have h1 := hr i (by omega)
    simp (disch := first | assumption | omega) only [↓RP, RQ, TY, loadT, reduceIte, Nat.reduceEqDiff, Nat.reduceAdd, e6, e5, e0, e1, hlt, hb', hv'.ints, hs'.ints]
    refine ⟨i + 1, ?_, by dsimp only; omega⟩
    simp (disch := first | assumption | omega) only [↓RP, RQ, TY, loadT, reduceIte, Nat.reduceEqDiff, Nat.reduceAdd, e6, e5, e0, e1]
    refine ⟨by omega, hE'.upd hb _, ?_⟩
    rw [← mix_set lT (show i < _ by rw [rep_length]; omega), pickL, tabN_getD _ (show i < set.length by omega)]
  · simp (disch := first | assumption | omega) only [↓RP, RQ, TY, loadT, reduceIte, Nat.reduceEqDiff, Nat.reduceAdd, e6, e5, e0, e1, hlt, hs'.ints]
    rw [mix_full lT (show _ ≤ i by rw [rep_length]; omega)] at hb'
    exact hQ b H' hb hE' hb'
theorem take_push {α : Type} {l : List α} {i : Nat} (d : α) (h : i < l.length) : l.take i ++ [l.getD i d] = l.take (i + 1) := by
  rw [List.take_succ_eq_append_getElem h]
  simp [List.getD_eq_getElem?_getD, h]
/-- rows of the call's own -/
def OwnR (H0 H : AH) (us : List AV) (l : List (List Int)) : Prop := ∀ i, i < l.length → 0 < (rowAt l i).length → Own H0 H (us.getD i .junk) (ints (rowAt l i))
theorem OwnR.ext {H0 H H' : AH} {us : List AV} {l : List (List Int)} (h : OwnR H0 H us l) (hE : Ext H H') : OwnR H0 H' us l := fun i hi hn => (h i hi hn).ext hE
theorem OwnR.old {H0 H1 H : AH} {us : List AV} {l : List (List Int)} (h : OwnR H1 H us l) (hE : Ext H0 H1) : OwnR H0 H us l := fun i hi hn => (h i hi hn).old hE
theorem Own.ints_keep {H0 H H' : AH} {v : AV} {xs : List Int} (h : Own H0 H v (ints xs)) (hn : 0 < xs.length) (hk : ∀ c ws, H c = .rw ws → (∃ u, u ∈ ws ∧ u.isSl = false) → H' c = .rw ws) : Own H0 H' v (ints xs) := by
  rcases h with h | ⟨b, rfl, h1, h2⟩
  · exact .inl h
  · refine .inr ⟨b, rfl, hk b _ h1 ?_, h2⟩
    cases xs with
    | nil => simp at hn
    | cons x xs => exact ⟨.int .i64 x, by simp [ints], rfl⟩
theorem OwnR.keep {H0 H H' : AH} {us : List AV} {l : List (List Int)} (h : OwnR H0 H us l) (hk : ∀ c ws, H c = .rw ws → (∃ u, u ∈ ws ∧ u.isSl = false) → H' c = .rw ws) : OwnR H0 H' us l :=
  fun i hi hn => (h i hi hn).ints_keep hn hk
theorem OwnR.push {H0 H : AH} {us : List AV} {l : List (List Int)} {u : AV} {xs : List Int} (h : OwnR H0 H us l) (hl : us.length = l.length) (hu : 0 < xs.length → Own H0 H u (ints xs)) : OwnR H0 H (us ++ [u]) (l ++ [xs]) := by
  intro j hj hn
  rw [List.length_append, List.length_singleton] at hj
  by_cases hjl : j < l.length
  · have e1 : rowAt (l ++ [xs]) j = rowAt l j := by simp [rowAt, List.getD_eq_getElem?_getD, List.getElem?_append_left hjl]
    rw [e1] at hn ⊢
    have := h j hjl hn
    simpa [List.getD_eq_getElem?_getD, List.getElem?_append_left (show j < us.length by rw [hl]; exact hjl)] using this
  · have e : j = l.length := by omega
    subst e
    have e1 : rowAt (l ++ [xs]) l.length = xs := by simp [rowAt, List.getD_eq_getElem?_getD]
    rw [e1] at hn ⊢
    simpa [List.getD_eq_getElem?_getD, ← hl] using hu hn
theorem OwnR.set {H0 H : AH} {us : List AV} {l : List (List Int)} {u : AV} {xs : List Int} (h : OwnR H0 H us l) (hl : us.length = l.length) (hu : 0 < xs.length → Own H0 H u (ints xs)) (i : Nat) : OwnR H0 H (us.set i u) (l.set i xs) := by
  intro j hj hn
  rw [List.length_set] at hj
  rw [rowAt, getD_setN] at hn ⊢
  rw [getD_setN, hl]
  split
  · rename_i q
    rw [if_pos q] at hn
    exact hu hn
  · rename_i q
    rw [if_neg q] at hn
    exact h j hj hn
theorem c_Copy {v : AV} {us : List AV} {rows : List (List Int)} {H : AH} {Q : AV → AH → Prop} (hv : Rows H v us rows) (hl : rows.length ≤ 1000) (hr : ∀ i, i < rows.length → (rowAt rows i).length ≤ 1000)
    (hQ : ∀ w ws H', Ext H H' → Own H H' w ws → RowsB H' ws rows → OwnR H H' ws rows → Q w H') : AC Try.prog 89 [v] H Q := by
  refine at89 (by simp) ?_
  simp (disch := first | assumption | omega) only [↓RP, RQ, TY, loadT, s89, reduceIte, Nat.reduceEqDiff, Nat.reduceAdd]
  refine sw_loop (σ := Nat × AV × List AV) (fun s e H' => e 4 = .int .i64 s.1 ∧ e 3 = s.2.1 ∧ e 0 = v ∧ s.1 ≤ rows.length ∧ Ext H H' ∧ Own H H' s.2.1 s.2.2 ∧ RowsB H' s.2.2 (rows.take s.1) ∧ OwnR H H' s.2.2 (rows.take s.1)) (fun s => rows.length - s.1) (0, .nils, []) ?_ ?_
  · simp (disch := first | assumption | omega) only [↓RP, RQ, TY, loadT, reduceIte, Nat.reduceEqDiff, Nat.reduceAdd]
    exact ⟨by omega, Ext.refl H, Own.nils, RowsB.nil, fun i hi => by simp at hi⟩
  rintro ⟨i, w, ws⟩ e H' ⟨e4, e3, e0, hi, hE, ho, hB, hO⟩
  dsimp only at *
  have hv' := hv.ext hE
  by_cases hlt : (i : Int) < rows.length
  · simp (disch := first | assumption | omega) only [↓RP, RQ, TY, loadT, reduceIte, Nat.reduceEqDiff, Nat.reduceAdd, e4, e3, e0, hlt, hv'.run]
    refine kNew_intro fun b1 H1 hb1 hE1 hH1 => ?_
    have hv1 := hv'.ext hE1
    simp (disch := first | assumption | omega) only [↓RP, RQ, TY, loadT, reduceIte, Nat.reduceEqDiff, Nat.reduceAdd, e4, e3, e0, hv1.run]
    have hr1 := (hv1.row i (by omega))
    have hrl := hr i (by omega)
    refine kApp_own (H0 := H') (zs := []) (us := ints (rowAt rows i)) (Own.mk hH1 hb1 rfl) hE1 hr1 ints_ones (by simp [ints_length]; omega) (by simp [ints_length]; omega) fun v2 H2 hE2 ho2 keep2 => ?_
    simp (disch := first | assumption | omega) only [↓RP, RQ, TY, loadT, reduceIte, Nat.reduceEqDiff, Nat.reduceAdd, e4, e3, e0]
    rw [List.nil_append] at ho2
    have hs2 : v2.isSl = true := ho2.sl.isSl
    simp (disch := first | assumption | omega) only [↓RP, RQ, TY, loadT, reduceIte, Nat.reduceEqDiff, Nat.reduceAdd, u_buildS1V, hs2]
    refine kNew_intro fun b3 H3 hb3 hE3 hH3 => ?_
    simp (disch := first | assumption | omega) only [↓RP, RQ, TY, loadT, reduceIte, Nat.reduceEqDiff, Nat.reduceAdd]
    have hE03 := (hE.trans hE2).trans hE3
    have hB3 := (hB.ext hE2).ext hE3
    refine kApp_rows (H0 := H) ((ho.ext hE2).ext hE3) hE03 (Sl.own hH3 rfl) hB.sl (fun u hu => by rw [List.mem_singleton.mp hu]; exact hs2) (by have := hB.len; simp at this ⊢; omega) (by have := hB.len; simp at this ⊢; omega) fun v4 H4 hE4 ho4 keep4 keep5 => ?_
    simp (disch := first | assumption | omega) only [↓RP, RQ, TY, loadT, reduceIte, Nat.reduceEqDiff, Nat.reduceAdd, e4, e3, e0]
    refine ⟨(i + 1, v4, ws ++ [v2]), ?_, by dsimp only; omega⟩
    simp (disch := first | assumption | omega) only [↓RP, RQ, TY, loadT, reduceIte, Nat.reduceEqDiff, Nat.reduceAdd, e4, e3, e0]
    refine ⟨by omega, hE4, ho4, ?_, ?_⟩
    · rw [← take_push [] (show i < rows.length by omega)]
      exact (hB3.keep keep4).push (keep4 _ _ ((ho2.ext hE3).sl))
    · rw [← take_push [] (show i < rows.length by omega)]
      refine (((hO.ext hE2).ext hE3).keep keep5).push (hB.len) fun hn => ?_
      exact ((ho2.old hE).ext hE3).ints_keep hn keep5
  · simp (disch := first | assumption | omega) only [↓RP, RQ, TY, loadT, reduceIte, Nat.reduceEqDiff, Nat.reduceAdd, e4, e3, e0, hlt, hv'.run]
    rw [List.take_of_length_le (by omega)] at hB hO
    exact hQ _ _ _ hE ho hB hO
end Go.Proofs.Yteijojnahpeglaa.AM
/-! The reference's matrices, fourth part: Eliminate and Canon. -/
namespace Go.Proofs.Yteijojnahpeglaa.AM
open Go Go.RowKit
set_option linter.unusedVariables false
set_option linter.unusedSimpArgs false
set_option maxRecDepth 20000
def natsI (l : List Nat) : List Int := l.map fun (n : Nat) => (n : Int)
theorem natsI_length (l : List Nat) : (natsI l).length = l.length := by simp [natsI]
theorem elim_succ (F : FOps) (rows : List (List Int)) (c : Nat) : elim F rows (c + 1) = elimStep F c (elim F rows c) := rfl
theorem elim_stop {F : FOps} {rows : List (List Int)} {c : Nat} (h : (elim F rows c).2.length = rows.length) : ∀ n, elim F rows (c + n) = elim F rows c
  | 0 => rfl
  | n + 1 => by
    have ih := elim_stop h n
    rw [← Nat.add_assoc, elim_succ, ih]
    simp only [elimStep]
    have := (firstNZ_spec (elim F rows c).1 (c + n) ((elim F rows c).1.length - (elim F rows c).2.length) (elim F rows c).2.length).1
    rw [if_neg]
    have h2 := elim_length (F := F) rows c
    omega
/-- the first i entries are T's -/
def mixA {α : Type} (T a : List α) (i : Nat) : List α := T.take i ++ a.drop i
theorem mixA_zero {α : Type} (T a : List α) : mixA T a 0 = a := by simp [mixA]
theorem mixA_length {α : Type} {T a : List α} (h : T.length = a.length) (i : Nat) : (mixA T a i).length = a.length := by
  simp [mixA]; omega
theorem mixA_full {α : Type} {T a : List α} (h : T.length = a.length) {i : Nat} (hi : a.length ≤ i) : mixA T a i = T := by
  simp [mixA, List.drop_of_length_le hi, List.take_of_length_le (show T.length ≤ i by omega)]
theorem mixA_get {α : Type} {T a : List α} (d : α) {i j : Nat} (h : T.length = a.length) : (mixA T a i).getD j d = if j < i then T.getD j d else a.getD j d := by
  split
  · rename_i hj
    by_cases hT : j < T.length
    · simp only [mixA, List.getD_eq_getElem?_getD]
      rw [List.getElem?_append_left (by simp; omega), List.getElem?_take, if_pos hj]
    · rw [getD_len _ (by rw [mixA_length h]; omega), getD_len _ (by omega)]
  · rename_i hj
    by_cases hj2 : j < a.length
    · simp only [mixA, List.getD_eq_getElem?_getD]
      rw [List.getElem?_append_right (by simp; omega), List.getElem?_drop]
      simp only [List.length_take]
      rw [show i + (j - min i T.length) = j by omega]
    · rw [getD_len _ (by rw [mixA_length h]; omega), getD_len _ (by omega)]
theorem mixA_set {α : Type} {T a : List α} (d : α) {i : Nat} (h : T.length = a.length) (hi : i < a.length) : (mixA T a i).set i (T.getD i d) = mixA T a (i + 1) := by
  have h1 : (List.take i T).length = i := by simp; omega
  have h2 : i < T.length := by omega
  have h3 : T.getD i d = T[i] := by simp [List.getD_eq_getElem?_getD, h2]
  simp only [mixA]
  rw [h3, List.set_append_right _ _ (by omega), h1, Nat.sub_self, List.drop_eq_getElem_cons hi, List.set_cons_zero, List.take_succ_eq_append_getElem h2]
  simp only [List.append_assoc, List.cons_append, List.nil_append]
theorem set_self {α : Type} (d : α) (l : List α) (i : Nat) : l.set i (l.getD i d) = l := by
  refine List.ext_getElem (by simp) fun j h1 h2 => ?_
  rw [List.getElem_set]
  split
  · rename_i q
    subst q
    simp [List.getD_eq_getElem?_getD, h2]
  · rfl
theorem b_get {xs : List AV} {i : Nat} (h : i < xs.length) : xs[i]? = some (xs.getD i .junk) := by
  simp [List.getD_eq_getElem?_getD, h]
theorem Own.blk {H0 H : AH} {v : AV} {us : List AV} (h : Own H0 H v us) (hn : 0 < us.length) : H (slB v) = .rw us ∧ slO v = 0 ∧ H0 (slB v) = .free := by
  obtain ⟨b, rfl, h1, h2⟩ := h.block (fun q => by rw [q] at hn; simp at hn)
  exact ⟨h1, rfl, h2⟩
theorem Own.store {H0 H : AH} {v : AV} {us us' : List AV} (h : Own H0 H v us) (hn : 0 < us.length) (hl : us'.length = us.length) : Own H0 (H.upd (slB v) (.rw us')) v us' := by
  obtain ⟨b, rfl, h1, h2⟩ := h.block (fun q => by rw [q] at hn; simp at hn)
  exact .inr ⟨b, by rw [hl], by simp [AH.upd, slB], h2⟩
theorem Own.off {H0 H : AH} {v : AV} {xs : List Int} {bl : Nat} {ws : List AV} (h : Own H0 H v (ints xs)) (hb : H bl = .rw ws) (hn : 0 < ws.length) (hw : ∀ u, u ∈ ws → u.isSl = true) (s : Slot) : Own H0 (H.upd bl s) v (ints xs) := by
  rcases h with h | ⟨b, rfl, h1, h2⟩
  · exact .inl h
  · refine .inr ⟨b, rfl, ?_, h2⟩
    have : b ≠ bl := fun q => by
      rw [q, hb] at h1
      cases h1
      cases xs with
      | nil => simp [ints] at hn
      | cons x xs =>
        have := hw (.int .i64 x) (by simp [ints])
        cases this
    simp [AH.upd, this, h1]
/-- v does not share the block of pv -/
def Apart (pv v : AV) : Prop := ∀ b o n c, v = .sl b o n c → Off pv b
/-- what the elimination keeps in memory -/
structure EM (H H' : AH) (b : Nat) (fs : List AV) (lv : AV) (ws : List AV) (l : List (List Int)) (pv : AV) (ps : List Int) : Prop where
  ext : Ext H H'
  fld : H' b = .rw fs
  fldn : (∃ u, u ∈ fs ∧ u.isSl = false) ∧ ∃ u, u ∈ fs ∧ u.isSl = true
  own : Own H H' lv ws
  rows : RowsB H' ws l
  ow : OwnR H H' ws l
  sep : ∀ i, i < l.length → 0 < (rowAt l i).length → Apart pv (ws.getD i .junk)
  piv : Own H H' pv (ints ps)
section
variable {H H' H2 : AH} {b : Nat} {fs : List AV} {lv : AV} {ws : List AV} {l : List (List Int)} {pv : AV} {ps : List Int}
theorem EM.more (h : EM H H' b fs lv ws l pv ps) (hE : Ext H' H2) : EM H H2 b fs lv ws l pv ps :=
  ⟨h.ext.trans hE, hE.rw h.fld, h.fldn, h.own.ext hE, h.rows.ext hE, h.ow.ext hE, h.sep, h.piv.ext hE⟩
theorem EM.blk (h : EM H H' b fs lv ws l pv ps) (hn : 0 < l.length) : H' (slB lv) = .rw ws ∧ slO lv = 0 :=
  have := h.own.blk (by rw [h.rows.len]; exact hn)
  ⟨this.1, this.2.1⟩
theorem EM.ne (h : EM H H' b fs lv ws l pv ps) (hn : 0 < l.length) : b ≠ slB lv := fun q => by
  have h1 := (h.blk hn).1
  rw [← q, h.fld] at h1
  cases h1
  obtain ⟨⟨u, h2, h3⟩, -⟩ := h.fldn
  rw [h.rows.sl u h2] at h3
  cases h3
theorem EM.store {u : AV} {xs : List Int} (h : EM H H' b fs lv ws l pv ps) (hu : Ints H' u xs) (huo : 0 < xs.length → Own H H' u (ints xs)) (hus : 0 < xs.length → Apart pv u) {i : Nat} (hi : i < l.length) :
    EM H (H'.upd (slB lv) (.rw (ws.set i u))) b fs lv (ws.set i u) (l.set i xs) pv ps := by
  have hw : 0 < ws.length := by rw [h.rows.len]; omega
  obtain ⟨h1, h2, h3⟩ := h.own.blk hw
  have hne := h.ne (by omega)
  refine ⟨h.ext.upd h3 _, ?_, h.fldn, h.own.store hw (by simp), ?_, ?_, ?_, h.piv.off h1 hw h.rows.sl _⟩
  · simp only [AH.upd, hne, if_false]; exact h.fld
  · exact (h.rows.set hu i).keep fun w xs hw' => ints_upd _ h1 h.rows.sl hw'
  · refine (h.ow.set h.rows.len huo i).keep fun c ws' hc ⟨u, hu1, hu2⟩ => ?_
    have : c ≠ slB lv := fun q => by
      rw [q, h1] at hc
      cases hc
      rw [h.rows.sl u hu1] at hu2
      cases hu2
    simp [AH.upd, this, hc]
  · intro j hj hn
    rw [List.length_set] at hj
    rw [rowAt, getD_setN] at hn
    rw [getD_setN, h.rows.len]
    split
    · rename_i q
      rw [if_pos q] at hn
      exact hus hn
    · rename_i q
      rw [if_neg q] at hn
      exact h.sep j hj hn
/-- a fresh slice is apart -/
theorem EM.fresh (h : EM H H' b fs lv ws l pv ps) {bl o n : Nat} {c : Cap} (hb : H' bl = .free) : Apart pv (.sl bl o n c) := fun b2 o2 n2 c2 q o3 n3 c3 q3 => by
  cases q
  rcases h.piv with ⟨rfl, -⟩ | ⟨b4, rfl, h4, -⟩
  · cases q3
  · cases q3
    rw [hb] at h4
    cases h4
theorem EM.push {v : AV} {ps' : List Int} (h : EM H H' b fs lv ws l pv ps) (hn : 0 < l.length) (hr : ∀ i, i < l.length → 0 < (rowAt l i).length) (hE : Ext H H2) (ho : Own H H2 v (ints ps')) (keep : ∀ c ws, H' c = .rw ws → Off pv c → H2 c = .rw ws ∧ Off v c) :
    EM H H2 b fs lv ws l v ps' := by
  obtain ⟨h1, h2⟩ := h.blk hn
  have pvb : ∀ c xs, H' c = .rw xs → (∃ u, u ∈ xs ∧ ∀ n, u ≠ .int .i64 n) → Off pv c := fun c xs hc ⟨u, hu1, hu2⟩ o n cp q => by
    rcases h.piv with ⟨q2, -⟩ | ⟨b4, q2, h4, -⟩
    · rw [q] at q2; cases q2
    · rw [q] at q2
      cases q2
      rw [hc] at h4
      cases h4
      simp only [ints, List.mem_map] at hu1
      obtain ⟨a, -, rfl⟩ := hu1
      exact hu2 a rfl
  have isn : ∀ u : AV, u.isSl = true → ∀ n, u ≠ .int .i64 n := fun u hu n q => by rw [q] at hu; cases hu
  have rowk : ∀ i, i < l.length → Own H H2 (ws.getD i .junk) (ints (rowAt l i)) ∧ Apart v (ws.getD i .junk) := fun i hi => by
    have hri := hr i hi
    rcases h.ow i hi hri with ⟨q1, q2⟩ | ⟨b4, q1, q2, q3⟩
    · have := congrArg List.length q2
      rw [ints_length] at this
      simp at this
      rw [this] at hri
      simp at hri
    · obtain ⟨k1, k2⟩ := keep b4 _ q2 (h.sep i hi hri b4 _ _ _ q1)
      exact ⟨.inr ⟨b4, q1, k1, q3⟩, fun b5 o n c q => by rw [q1] at q; cases q; exact k2⟩
  refine ⟨hE, ?_, h.fldn, ?_, ⟨h.rows.len, h.rows.sl, fun i hi => (rowk i hi).1.sl⟩, fun i hi _ => (rowk i hi).1, fun i hi _ => (rowk i hi).2, ho⟩
  · obtain ⟨u, hu1, hu2⟩ := h.fldn.2
    exact (keep b _ h.fld (pvb b _ h.fld ⟨u, hu1, isn u hu2⟩)).1
  · obtain ⟨bl, q1, q2, q3⟩ := h.own.block (fun q => by have := h.rows.len; rw [q] at this; simp at this; omega)
    have hw : 0 < ws.length := by rw [h.rows.len]; omega
    have hu1 : ws[0] ∈ ws := List.getElem_mem hw
    exact .inr ⟨bl, q1, (keep bl _ q2 (pvb bl _ q2 ⟨ws[0], hu1, isn _ (h.rows.sl _ hu1)⟩)).1, q3⟩
end
theorem kIf_cut {P : Program} {x y : SC} {Q : APost} {N : Env → AH → Prop} {e : Env} {H : AH} {v : AV} (M : Env → AH → Prop) (h1 : kIf P x y (AX.then M Q) e H v) (h2 : ∀ e H, M e H → N e H) : kIf P x y (AX.then N Q) e H v := by
  have hm : ∀ X e H, AX.then M Q X e H → AX.then N Q X e H := fun X e H h => by
    cases X with
    | normal => exact h2 _ _ h
    | exit i => exact h
    | ret => exact h
  cases v with
  | bool b => cases b <;> exact swp_mono _ hm h1
  | _ => exact h1.elim
theorem RowsB.rn {H : AH} {us : List AV} {l : List (List Int)} (h : RowsB H us l) {i : Nat} (hi : i < l.length) : Ints H (us.getD i .junk) (rowAt l i) := h.row i hi

theorem c_Elim {p m : Int} {md v : AV} {mod : List Int} {us : List AV} {rows : List (List Int)} {n cols : Nat} {H : AH} {Q : AV → AH → Prop} (hf : FA H p m md mod) (hv : Rows H v us rows) (hr : Rect n rows) (he : Els (fF p m mod) rows)
    (hn : n ≤ 1000) (hk : rows.length ≤ 1000) (hc : cols ≤ n)
    (hQ : ∀ lv pv us' H', Ext H H' → Own H H' lv us' → RowsB H' us' (elim (fF p m mod) rows cols).1 → OwnR H H' us' (elim (fF p m mod) rows cols).1 → Own H H' pv (ints (natsI (elim (fF p m mod) rows cols).2)) → Q (.tup [lv, pv]) H') :
    AC Try.prog 71 [.agg [.int .i64 p, .int .i64 m, md], v, .int .i64 cols] H Q := by
  refine at71 (by simp) ?_
  simp (disch := first | assumption | omega) only [↓RP, RQ, TY, loadT, s71, reduceIte, Nat.reduceEqDiff, Nat.reduceAdd]
  refine kNew_intro fun b H1 hb hE1 hH1 => ?_
  simp (disch := first | assumption | omega) only [↓RP, RQ, TY, loadT, reduceIte, Nat.reduceEqDiff, Nat.reduceAdd]
  refine c_Copy (hv.ext hE1) hk (fun i hi => by rw [hr i hi]; exact hn) fun lv us0 H2 hE2 ho2 hB2 hO2 => ?_
  have hH2 := hE2.rw hH1
  have hE12 := hE1.trans hE2
  simp (disch := first | assumption | omega) only [↓RP, RQ, TY, loadT, reduceIte, Nat.reduceEqDiff, Nat.reduceAdd]
  have key : ∀ c s, s = elim (fF p m mod) rows c → EInv hf.ok n rows c s := fun c s hs => hs ▸ elim_inv hf.ok hr he c
  refine sw_loop (σ := Nat × List (List Int) × List Nat × AV × List AV) (fun s e H' => e 11 = .int .i64 s.1 ∧ e 10 = .int .i64 s.2.2.1.length ∧ e 9 = s.2.2.2.1 ∧ e 8 = lv ∧ e 2 = .int .i64 cols ∧ e 3 = .ptr b 0 ∧ s.1 ≤ cols ∧
    EM H H' b [.int .i64 p, .int .i64 m, md] lv s.2.2.2.2 s.2.1 s.2.2.2.1 (natsI s.2.2.1) ∧ (s.2.1, s.2.2.1) = elim (fF p m mod) rows s.1) (fun s => cols - s.1) (0, rows, [], .nils, us0) ?_ ?_
  · simp (disch := first | assumption | omega) only [↓RP, RQ, TY, loadT, reduceIte, Nat.reduceEqDiff, Nat.reduceAdd]
    exact ⟨rfl, by omega, ⟨hE12, hH2, ⟨⟨.int .i64 p, by simp, rfl⟩, md, by simp, hf.hm.isSl⟩, ho2.old hE1, hB2, hO2.old hE1, fun i hi hn b o n c q o' n' c' q' => (by cases q'), Own.nils⟩, rfl⟩
  rintro ⟨c, l, piv, pv, ws⟩ e H' ⟨e11, e10, e9, e8, e2, e3, hcc, hM, hs⟩
  dsimp only at *
  have inv := key c _ hs
  obtain ⟨rect, els, len, le, -, lt, -, -, -, -⟩ := inv
  dsimp only at *
  have hlr := (hM.rows.rows hM.own.sl).run
  by_cases hlt : (c : Int) < cols
  rotate_left
  · simp (disch := first | assumption | omega) only [↓RP, RQ, TY, loadT, reduceIte, Nat.reduceEqDiff, Nat.reduceAdd, e11, e10, e9, e8, e2, e3, hlt, hlr]
    rw [show c = cols by omega] at hs
    rw [← hs] at hQ
    exact hQ _ _ _ _ hM.ext hM.own hM.rows hM.ow hM.piv
  by_cases hat : (piv.length : Int) < l.length
  rotate_left
  · simp (disch := first | assumption | omega) only [↓RP, RQ, TY, loadT, reduceIte, Nat.reduceEqDiff, Nat.reduceAdd, e11, e10, e9, e8, e2, e3, hlt, hat, hlr]
    have hst := elim_stop (F := fF p m mod) (rows := rows) (c := c) (by rw [← hs]; dsimp only; omega) (cols - c)
    rw [show c + (cols - c) = cols by omega, ← hs] at hst
    rw [hst] at hQ
    exact hQ _ _ _ _ hM.ext hM.own hM.rows hM.ow hM.piv
  simp (disch := first | assumption | omega) only [↓RP, RQ, TY, loadT, reduceIte, Nat.reduceEqDiff, Nat.reduceAdd, e11, e10, e9, e8, e2, e3, hlt, hat, hlr]
  have hcn : c < n := by omega
  have hrow : ∀ i, i < l.length → (rowAt l i).length = n := rect
  -- the search for a pivot
  refine sw_loop (σ := Nat) (fun k e H2 => e 12 = .int .i64 k ∧ e 11 = .int .i64 c ∧ e 10 = .int .i64 piv.length ∧ e 9 = pv ∧ e 8 = lv ∧ e 2 = .int .i64 cols ∧ e 3 = .ptr b 0 ∧ H2 = H' ∧ piv.length ≤ k ∧ k ≤ l.length ∧ ∀ i, piv.length ≤ i → i < k → ent l i c = 0) (fun k => l.length - k) piv.length ?_ ?_
  · simp (disch := first | assumption | omega) only [↓RP, RQ, TY, loadT, reduceIte, Nat.reduceEqDiff, Nat.reduceAdd, e11, e10, e9, e8, e2, e3]
    exact ⟨by omega, by omega, fun i h1 h2 => by omega⟩
  rintro k e H2 ⟨e12, e11, e10, e9, e8, e2, e3, rfl, hk1, hk2, hk3⟩
  by_cases hkl : (k : Int) < l.length
  rotate_left
  · -- no pivot in this column
    simp (disch := first | assumption | omega) only [↓RP, RQ, TY, loadT, reduceIte, Nat.reduceEqDiff, Nat.reduceAdd, e12, e11, e10, e9, e8, e2, e3, hkl, hlr, eq_true (show (k : Int) = l.length by omega)]
    refine ⟨(c + 1, l, piv, pv, ws), ?_, by dsimp only; omega⟩
    simp (disch := first | assumption | omega) only [↓RP, RQ, TY, loadT, reduceIte, Nat.reduceEqDiff, Nat.reduceAdd, e12, e11, e10, e9, e8, e2, e3]
    refine ⟨by omega, hM, ?_⟩
    rw [elim_succ, ← hs]
    simp only [elimStep]
    rw [firstNZ_eq l.length (by omega) (fun i h1 h2 => hk3 i h1 (by omega)) (fun q => by omega) (Nat.le_refl _), if_neg (by omega)]
  have hrk := (hM.rows.rn (i := k) (by omega))
  have hrkl := hrow k (by omega)
  by_cases hz : (rowAt l k).getD c 0 = 0
  · simp (disch := first | assumption | omega) only [↓RP, RQ, TY, loadT, reduceIte, Nat.reduceEqDiff, Nat.reduceAdd, e12, e11, e10, e9, e8, e2, e3, hkl, hlr, hrk.ints, hz]
    refine ⟨k + 1, ?_, by dsimp only; omega⟩
    simp (disch := first | assumption | omega) only [↓RP, RQ, TY, loadT, reduceIte, Nat.reduceEqDiff, Nat.reduceAdd, e12, e11, e10, e9, e8, e2, e3]
    refine ⟨by omega, by omega, fun i h1 h2 => ?_⟩
    by_cases hik : i = k
    · rw [hik]; exact hz
    · exact hk3 i h1 (by omega)
  have hstep : elim (fF p m mod) rows (c + 1) = (clearL (fF p m mod) c piv.length (unitL (fF p m mod) c piv.length (swapL l piv.length k)), piv ++ [c]) := by
    rw [elim_succ, ← hs]
    simp only [elimStep]
    rw [firstNZ_eq k hk1 hk3 (fun _ => hz) hk2, if_pos (by omega)]
  have la : piv.length < l.length := by omega
  have lk : k < l.length := by omega
  have hra := (hM.rows.rn (i := piv.length) la)
  obtain ⟨hbl, hso⟩ := hM.blk (by omega)
  have hwl := hM.rows.len
  have hw1 : (ws.set piv.length (ws.getD k .junk)).length = ws.length := by simp
  have hM1 := hM.store hrk (hM.ow k lk) (hM.sep k lk) (i := piv.length) la
  have hM2 := hM1.store (u := ws.getD piv.length .junk) (xs := rowAt l piv.length) (ints_upd _ hbl hM.rows.sl hra) (fun q => (hM.ow _ la q).ints_keep q fun c ws' hc ⟨u, hu1, hu2⟩ => by
    have : c ≠ slB lv := fun q => by
      rw [q, hbl] at hc
      cases hc
      rw [hM.rows.sl u hu1] at hu2
      cases hu2
    simp [AH.upd, this, hc]) (hM.sep _ la) (i := k) (by rw [List.length_set]; omega)
  simp (disch := first | assumption | omega) only [↓RP, RQ, TY, loadT, reduceIte, Nat.reduceEqDiff, Nat.reduceAdd, e12, e11, e10, e9, e8, e2, e3, hkl, hso, Nat.zero_add, hbl, hlr.1, hlr.2.1, b_get, hrk.ints, hz, eq_false (show ¬ (k : Int) = l.length by omega), u_storeV hrk.isSl, u_storeV hra.isSl, u_stGV hrk.isSl, u_stGV hra.isSl]
  have hL1 : (l.set piv.length (rowAt l k)).set k (rowAt l piv.length) = swapL l piv.length k := rfl
  rw [hL1] at hM2
  generalize hW2 : (ws.set piv.length (ws.getD k .junk)).set k (ws.getD piv.length .junk) = ws2 at hM2 ⊢
  generalize hH3 : AH.upd (AH.upd H2 (slB lv) (.rw (ws.set piv.length (ws.getD k .junk)))) (slB lv) (.rw ws2) = H3 at hM2 ⊢
  have rect2 := swapL_rect rect la lk
  have els2 := swapL_els els la lk
  have len2 := swapL_length l piv.length k
  have z2 : ent (swapL l piv.length k) piv.length c ≠ 0 := by rw [ent, rowAt_swap la lk, if_pos rfl]; exact hz
  generalize hL2 : swapL l piv.length k = l2 at *
  obtain ⟨hbl2, -⟩ := hM2.blk (by omega)
  have hwl2 := hM2.rows.len
  have hra2 := hM2.rows.rn (i := piv.length) (by omega)
  have lra2 := rect2 piv.length (by omega)
  simp (disch := first | assumption | omega) only [↓RP, RQ, TY, loadT, reduceIte, Nat.reduceEqDiff, Nat.reduceAdd, e11, e10, e8, hbl2, hM2.fld, b_get, hra2.ints]
  refine kIf_cut (M := fun e H4 => e 11 = .int .i64 c ∧ e 10 = .int .i64 piv.length ∧ e 9 = pv ∧ e 8 = lv ∧ e 2 = .int .i64 cols ∧ e 3 = .ptr b 0 ∧ ∃ ws3, EM H H4 b [.int .i64 p, .int .i64 m, md] lv ws3 (unitL (fF p m mod) c piv.length l2) pv (natsI piv)) ?_ ?_
  · by_cases h1 : (rowAt l2 piv.length).getD c 0 = 1
    · simp (disch := first | assumption | omega) only [↓RP, RQ, TY, loadT, reduceIte, Nat.reduceEqDiff, Nat.reduceAdd, h1, e11, e10, e9, e8, e2, e3]
      refine ⟨ws2, ?_⟩
      rw [unitL, if_neg (by simpa [ent] using h1)]
      exact hM2
    · simp (disch := first | assumption | omega) only [↓RP, RQ, TY, loadT, reduceIte, Nat.reduceEqDiff, Nat.reduceAdd, h1, e11, e10, e9, e8, e2, e3, hbl2, hso, Nat.zero_add, hM2.fld, hlr.1, hlr.2.1, b_get, hra2.ints]
      refine c_Inv04 (hf.hm.ext hM2.ext) hf.rm hf.lm (els2 piv.length c).1 (els2 piv.length c).2 fun v4 H4 hE4 hv4 => ?_
      have hM4 := hM2.more hE4
      have hvi := isInv_eq hf.ok (els2 piv.length c) z2 hv4
      subst hvi
      obtain ⟨hbl4, -⟩ := hM4.blk (by omega)
      have hra4 := hM4.rows.rn (i := piv.length) (by omega)
      simp (disch := first | assumption | omega) only [↓RP, RQ, TY, loadT, reduceIte, Nat.reduceEqDiff, Nat.reduceAdd, e11, e10, e9, e8, e2, e3, hbl4, hso, Nat.zero_add, hM4.fld, hlr.1, hlr.2.1, b_get, hra4.ints]
      refine c_scale (hf.ext hM4.ext) (hf.ok.inv_el (els2 _ _)) hra4 (by omega) (fun i => els2 _ i) fun b5 H5 hb5 hE5 hH5 => ?_
      have hM5 := hM4.more hE5
      obtain ⟨hbl5, -⟩ := hM5.blk (by omega)
      have hs5 := Sl.own hH5 (n := (rowAt l2 piv.length).length) (c := .own 1) (by rw [ints_length, scaleL_length])
      have hM6 := hM5.store hs5 (fun _ => Own.mk hH5 (hM4.ext.free hb5) (by rw [ints_length, scaleL_length])) (fun _ => hM4.fresh hb5) (i := piv.length) (by omega)
      simp (disch := first | assumption | omega) only [↓RP, RQ, TY, loadT, reduceIte, Nat.reduceEqDiff, Nat.reduceAdd, e11, e10, e9, e8, e2, e3, hbl5, hso, Nat.zero_add, hM5.fld, hlr.1, hlr.2.1, b_get]
      refine ⟨ws2.set piv.length (.sl b5 0 (rowAt l2 piv.length).length (.own 1)), ?_⟩
      rw [unitL, if_pos (by simpa [ent] using h1)]
      exact hM6
  rintro e H4 ⟨e11, e10, e9, e8, e2, e3, ws3, hM3⟩
  have rect3 := unitL_rect (F := fF p m mod) c piv.length rect2
  have els3 := unitL_els hf.ok c piv.length els2 (by omega) z2
  have len3 := unitL_length (F := fF p m mod) c piv.length l2
  generalize hL3 : unitL (fF p m mod) c piv.length l2 = l3 at *
  have lT : (clearL (fF p m mod) c piv.length l3).length = l3.length := clearL_length _ _ _
  -- the other rows
  simp (disch := first | assumption | omega) only [↓RP, RQ, TY, loadT, reduceIte, Nat.reduceEqDiff, Nat.reduceAdd, e11, e10, e9, e8, e2, e3]
  refine sw_loop (σ := Nat) (fun i e H4 => e 13 = .int .i64 i ∧ e 11 = .int .i64 c ∧ e 10 = .int .i64 piv.length ∧ e 9 = pv ∧ e 8 = lv ∧ e 2 = .int .i64 cols ∧ e 3 = .ptr b 0 ∧ i ≤ l.length ∧ ∃ ws3, EM H H4 b [.int .i64 p, .int .i64 m, md] lv ws3 (mixA (clearL (fF p m mod) c piv.length l3) l3 i) pv (natsI piv)) (fun i => l.length - i) 0 ?_ ?_
  · simp (disch := first | assumption | omega) only [↓RP, RQ, TY, loadT, reduceIte, Nat.reduceEqDiff, Nat.reduceAdd, e11, e10, e9, e8, e2, e3, mixA_zero]
    exact ⟨by omega, ws3, hM3⟩
  rintro i e H5 ⟨e13, e11, e10, e9, e8, e2, e3, hi, ws4, hM4⟩
  have lM := mixA_length lT i
  have hwl4 := hM4.rows.len
  obtain ⟨hbl4, -⟩ := hM4.blk (by omega)
  have e0 : ∀ j, rowAt (mixA (clearL (fF p m mod) c piv.length l3) l3 i) j = if j < i then rowAt (clearL (fF p m mod) c piv.length l3) j else rowAt l3 j := fun j => mixA_get [] lT
  have eT : ∀ j, j < l3.length → rowAt (clearL (fF p m mod) c piv.length l3) j = clearRow (fF p m mod) c piv.length l3 j := fun j hj => by rw [rowAt, clearL, tabN_getD _ hj]
  have eA : rowAt (mixA (clearL (fF p m mod) c piv.length l3) l3 i) piv.length = rowAt l3 piv.length := by
    rw [e0]
    split
    · rw [eT _ (by omega), clearRow, if_neg (by simp)]
    · rfl
  have keepM : i < l3.length → clearRow (fF p m mod) c piv.length l3 i = rowAt l3 i → mixA (clearL (fF p m mod) c piv.length l3) l3 (i + 1) = mixA (clearL (fF p m mod) c piv.length l3) l3 i := fun hi3 q => by
    rw [← mixA_set [] lT hi3]
    have : (clearL (fF p m mod) c piv.length l3).getD i [] = (mixA (clearL (fF p m mod) c piv.length l3) l3 i).getD i [] := by
      have h1 := e0 i
      rw [if_neg (Nat.lt_irrefl i)] at h1
      have h2 := eT i hi3
      rw [q] at h2
      rw [rowAt] at h1 h2
      rw [h1, h2]
    rw [this, set_self]
  by_cases hit : (i : Int) < l.length
  rotate_left
  · have hfull := mixA_full lT (i := i) (by omega)
    rw [hfull] at hM4
    have hlr4 := (hM4.rows.rows hM4.own.sl).run
    have lc : (clearL (fF p m mod) c piv.length l3).length = l.length := by omega
    simp (disch := first | assumption | omega) only [↓RP, RQ, TY, loadT, reduceIte, Nat.reduceEqDiff, Nat.reduceAdd, e13, e11, e10, e9, e8, e2, e3, hit, hlr4, lc]
    refine kNew_intro fun b6 H6 hb6 hE6 hH6 => ?_
    have hM6 := hM4.more hE6
    simp (disch := first | assumption | omega) only [↓RP, RQ, TY, loadT, reduceIte, Nat.reduceEqDiff, Nat.reduceAdd, e13, e11, e10, e9, e8, e2, e3]
    have hpl : piv.length ≤ 1000 := by omega
    refine kApp_own (H0 := H) (us := ints [(c : Int)]) hM6.piv hM6.ext (Sl.own hH6 rfl) ints_ones (by simp [ints_length, natsI_length]; omega) (by simp [ints_length, natsI_length]; omega) fun v7 H7 hE7 ho7 keep7 => ?_
    rw [ints_app] at ho7
    have hps : natsI piv ++ [(c : Int)] = natsI (piv ++ [c]) := by simp [natsI]
    rw [hps] at ho7
    have rectT := clearL_rect (F := fF p m mod) c piv.length rect3
    have hM7 := hM6.push (by omega) (fun j hj => by rw [rectT j hj]; omega) hE7 ho7 keep7
    simp (disch := first | assumption | omega) only [↓RP, RQ, TY, loadT, reduceIte, Nat.reduceEqDiff, Nat.reduceAdd, e13, e11, e10, e9, e8, e2, e3]
    refine ⟨(c + 1, clearL (fF p m mod) c piv.length l3, piv ++ [c], v7, ws4), ?_, by dsimp only; omega⟩
    simp (disch := first | assumption | omega) only [↓RP, RQ, TY, loadT, reduceIte, Nat.reduceEqDiff, Nat.reduceAdd, e13, e11, e10, e9, e8, e2, e3]
    refine ⟨?_, by omega, hM7, ?_⟩
    · simp
    · rw [hstep]
  have hlr4 := (hM4.rows.rows hM4.own.sl).run
  rw [lM] at hlr4
  have l3l : l3.length = l.length := by omega
  rw [l3l] at hlr4
  have hri := hM4.rows.rn (i := i) (by omega)
  rw [e0 i, if_neg (Nat.lt_irrefl i)] at hri
  have lri := rect3 i (by omega)
  by_cases hia : (i : Int) = piv.length
  · simp (disch := first | assumption | omega) only [↓RP, RQ, TY, loadT, reduceIte, Nat.reduceEqDiff, Nat.reduceAdd, e13, e11, e10, e9, e8, e2, e3, hit, hlr4, eq_true hia]
    refine ⟨i + 1, ?_, by dsimp only; omega⟩
    simp (disch := first | assumption | omega) only [↓RP, RQ, TY, loadT, reduceIte, Nat.reduceEqDiff, Nat.reduceAdd, e13, e11, e10, e9, e8, e2, e3]
    refine ⟨by omega, ws4, ?_⟩
    rw [keepM (by omega) (by rw [clearRow, if_neg (by simp; omega)])]
    exact hM4
  by_cases hz0 : (rowAt l3 i).getD c 0 = 0
  · simp (disch := first | assumption | omega) only [↓RP, RQ, TY, loadT, reduceIte, Nat.reduceEqDiff, Nat.reduceAdd, e13, e11, e10, e9, e8, e2, e3, hit, hlr4, eq_false hia, hz0, hri.ints]
    refine ⟨i + 1, ?_, by dsimp only; omega⟩
    simp (disch := first | assumption | omega) only [↓RP, RQ, TY, loadT, reduceIte, Nat.reduceEqDiff, Nat.reduceAdd, e13, e11, e10, e9, e8, e2, e3]
    refine ⟨by omega, ws4, ?_⟩
    rw [keepM (by omega) (by rw [clearRow, if_neg (fun q => q.2 hz0)])]
    exact hM4
  have hraM := hM4.rows.rn (i := piv.length) (by omega)
  rw [eA] at hraM
  have lra3 := rect3 piv.length (by omega)
  simp (disch := first | assumption | omega) only [↓RP, RQ, TY, loadT, reduceIte, Nat.reduceEqDiff, Nat.reduceAdd, e13, e11, e10, e9, e8, e2, e3, hit, hlr4, eq_false hia, hz0, hri.ints, hM4.fld]
  refine c_Neg04 (els3 i c).1 (els3 i c).2 fun H6 hE6 => ?_
  have hM6 := hM4.more hE6
  have hlr6 := (hM6.rows.rows hM6.own.sl).run
  rw [lM, l3l] at hlr6
  have hri6 := hri.ext hE6
  have hneg : (fF p m mod).El (fneg p m (ent l3 i c)) := hf.ok.neg_el (els3 i c)
  simp (disch := first | assumption | omega) only [↓RP, RQ, TY, loadT, reduceIte, Nat.reduceEqDiff, Nat.reduceAdd, e13, e11, e10, e9, e8, e2, e3, hit, hlr6, hri6.ints, hM6.fld]
  refine c_AddTo (hf.ext hM6.ext) hneg hri6 (hraM.ext hE6) (by omega) (by omega) (fun j => els3 i j) (fun j => els3 _ j) fun b7 H7 hb7 hE7 hH7 => ?_
  have hM7 := hM6.more hE7
  obtain ⟨hbl7, -⟩ := hM7.blk (by omega)
  have hs7 := Sl.own hH7 (n := (rowAt l3 i).length) (c := .own 1) (by rw [ints_length, addToL_length])
  have hM8 := hM7.store hs7 (fun _ => Own.mk hH7 (hM6.ext.free hb7) (by rw [ints_length, addToL_length])) (fun _ => hM6.fresh hb7) (i := i) (by omega)
  simp (disch := first | assumption | omega) only [↓RP, RQ, TY, loadT, reduceIte, Nat.reduceEqDiff, Nat.reduceAdd, e13, e11, e10, e9, e8, e2, e3, hbl7, hso, Nat.zero_add, hM7.fld, hlr6.1, hlr6.2.1, b_get]
  refine ⟨i + 1, ?_, by dsimp only; omega⟩
  simp (disch := first | assumption | omega) only [↓RP, RQ, TY, loadT, reduceIte, Nat.reduceEqDiff, Nat.reduceAdd, e13, e11, e10, e9, e8, e2, e3]
  refine ⟨by omega, ws4.set i (.sl b7 0 (rowAt l3 i).length (.own 1)), ?_⟩
  rw [← mixA_set [] lT (show i < l3.length by omega)]
  have eT2 := eT i (by omega)
  rw [rowAt] at eT2
  rw [eT2, clearRow, if_pos ⟨by omega, hz0⟩]
  exact hM8
end Go.Proofs.Yteijojnahpeglaa.AM
/-! The reference's matrices, fifth part: Canon, Check. -/
namespace Go.Proofs.Yteijojnahpeglaa.AM
open Go Go.RowKit
set_option linter.unusedVariables false
set_option linter.unusedSimpArgs false
set_option maxRecDepth 20000
/-- the first n elements of a slice -/
def slTake : AV → Nat → AV
  | .sl b o _ c, n => .sl b o n c
  | v, _ => v
theorem Sl.slice {P : Program} {K : Kt} {e : Env} {H H' : AH} {d : Option Nat} {r : Rst} {k : IntKind} {v : AV} {us : List AV} {h : Int} (hs : Sl H v us) (h0 : 0 ≤ h) (h1 : h ≤ us.length) :
    kSlice P (some 1) r e H' K d v none (some (.int k h)) none = kPut P r e H' K d (slTake v h.toNat) := by
  rcases hs with ⟨rfl, rfl⟩ | ⟨b, o, c, rfl, -⟩
  · have : h = 0 := by simp at h1; omega
    subst this
    refine propext ⟨?_, ?_⟩
    · rintro ⟨s, -, -, -, -, h5⟩; exact h5
    · intro h2
      exact ⟨1, rfl, (fun v hv => by cases hv), (fun v hv => ⟨k, by cases hv; rfl⟩), (fun v hv => by cases hv), h2⟩
  · exact u_sliceH h0 h1
theorem Sl.taken {H : AH} {v : AV} {us : List AV} {n : Nat} (hs : Sl H v us) (hn : n ≤ us.length) : Sl H (slTake v n) (us.take n) := by
  rcases hs with ⟨rfl, rfl⟩ | ⟨b, o, c, rfl, h⟩
  · exact .inl ⟨rfl, by simp⟩
  · refine .inr ⟨b, o, c, by rw [List.length_take, Nat.min_eq_left hn]; rfl, fun i u hu => ?_⟩
    rw [List.getElem?_take] at hu
    split at hu
    · exact h i u hu
    · cases hu
theorem rowAt_take {l : List (List Int)} {n i : Nat} (h : i < n) : rowAt (l.take n) i = rowAt l i := by
  simp [rowAt, List.getD_eq_getElem?_getD, List.getElem?_take, h]
theorem RowsB.taken {H : AH} {us : List AV} {l : List (List Int)} (h : RowsB H us l) {n : Nat} (hn : n ≤ l.length) : RowsB H (us.take n) (l.take n) := by
  refine ⟨by simp [h.len], fun u hu => h.sl u (List.mem_of_mem_take hu), fun i hi => ?_⟩
  rw [List.length_take] at hi
  rw [rowAt_take (by omega)]
  have := h.row i (by omega)
  simpa [List.getD_eq_getElem?_getD, List.getElem?_take, show i < n by omega] using this
/-- the canonical rows, and the pivots -/
def canon (F : FOps) (rows : List (List Int)) (cols : Nat) : List (List Int) × List Nat := ((elim F rows cols).1.take (elim F rows cols).2.length, (elim F rows cols).2)
theorem c_Canon {p m : Int} {md v : AV} {mod : List Int} {us : List AV} {rows : List (List Int)} {n cols : Nat} {H : AH} {Q : AV → AH → Prop} (hf : FA H p m md mod) (hv : Rows H v us rows) (hr : Rect n rows) (he : Els (fF p m mod) rows)
    (hn : n ≤ 1000) (hk : rows.length ≤ 1000) (hc : cols ≤ n)
    (hQ : ∀ lv pv us' H', Ext H H' → Rows H' lv us' (canon (fF p m mod) rows cols).1 → Ints H' pv (natsI (canon (fF p m mod) rows cols).2) → Q (.tup [lv, pv]) H') :
    AC Try.prog 54 [.agg [.int .i64 p, .int .i64 m, md], v, .int .i64 cols] H Q := by
  refine at54 (by simp) ?_
  simp (disch := first | assumption | omega) only [↓RP, RQ, TY, loadT, s54, reduceIte, Nat.reduceEqDiff, Nat.reduceAdd]
  refine kNew_intro fun b H1 hb hE1 hH1 => ?_
  simp (disch := first | assumption | omega) only [↓RP, RQ, TY, loadT, reduceIte, Nat.reduceEqDiff, Nat.reduceAdd, hH1]
  refine c_Elim (hf.ext hE1) (hv.ext hE1) hr he hn hk hc fun lv pv us2 H2 hE2 ho2 hB2 hO2 hp2 => ?_
  have hle := elim_piv (F := fF p m mod) rows cols
  have hll := elim_length (F := fF p m mod) rows cols
  have hpi := hp2.sl.ints
  rw [natsI_length] at hpi
  have hul : us2.length = rows.length := by rw [hB2.len, hll]
  simp (disch := first | assumption | omega) only [↓RP, RQ, TY, loadT, reduceIte, Nat.reduceEqDiff, Nat.reduceAdd, hpi, ho2.sl.slice, m_nat]
  exact hQ _ _ _ _ (hE1.trans hE2) ((hB2.taken (by omega)).rows (ho2.sl.taken (by omega))) hp2.sl
open Classical in
/-- the error of a matrix -/
noncomputable def matErr (p m : Int) (mod : List Int) (cols : Int) (rows : List (List Int)) : Int :=
  if ¬ FieldOk p m mod then 1 else if cols < 0 ∨ 256 < cols ∨ 256 < rows.length ∨ (∃ i, i < rows.length ∧ ((rowAt rows i).length : Int) ≠ cols) then 3
  else if ∃ i, i < rows.length ∧ ¬ AllEl p m (rowAt rows i) then 2 else 0
open Classical in
theorem c_Check09 {p m cols : Int} {md v : AV} {mod : List Int} {us : List AV} {rows : List (List Int)} {H : AH} {Q : AV → AH → Prop} (hm : Ints H md mod) (hv : Rows H v us rows) (hl : rows.length ≤ 9223372036854775807) (hlr : ∀ i, i < rows.length → (rowAt rows i).length ≤ 9223372036854775807)
    (hQ : ∀ H', Ext H H' → Q (.int .i64 (matErr p m mod cols rows)) H') : AC Try.prog 53 [.agg [.int .i64 p, .int .i64 m, md], .agg [.int .i64 cols, v]] H Q := by
  refine at53 (by simp) ?_
  simp (disch := first | assumption | omega) only [↓RP, RQ, TY, loadT, s53, reduceIte, Nat.reduceEqDiff, Nat.reduceAdd]
  refine kNew_intro fun b H1 hb hE1 hH1 => ?_
  simp (disch := first | assumption | omega) only [↓RP, RQ, TY, loadT, reduceIte, Nat.reduceEqDiff, Nat.reduceAdd, hH1]
  refine kNew_intro fun b2 H2 hb2 hE2 hH2 => ?_
  have hH12 := hE2.rw hH1
  have hE12 := hE1.trans hE2
  simp (disch := first | assumption | omega) only [↓RP, RQ, TY, loadT, reduceIte, Nat.reduceEqDiff, Nat.reduceAdd, hH12]
  refine c_Check04 (hm.ext hE12) fun H3 hE3 => ?_
  have hE13 := hE12.trans hE3
  have h13 := hE3.rw hH12
  have h23 := hE3.rw hH2
  by_cases hF : FieldOk p m mod
  rotate_left
  · simp (disch := first | assumption | omega) only [↓RP, RQ, TY, loadT, reduceIte, Nat.reduceEqDiff, Nat.reduceAdd, hF, Int.reduceEq, Int.reduceNe]
    have := hQ H3 hE13
    rwa [matErr, if_pos hF] at this
  have hv3 := hv.ext hE13
  by_cases c1 : cols < 0
  · simp (disch := first | assumption | omega) only [↓RP, RQ, TY, loadT, reduceIte, Nat.reduceEqDiff, Nat.reduceAdd, hF, h23, c1]
    have := hQ H3 hE13
    rwa [matErr, if_neg (by simpa using hF), if_pos (.inl c1)] at this
  by_cases c2 : 256 < cols
  · simp (disch := first | assumption | omega) only [↓RP, RQ, TY, loadT, reduceIte, Nat.reduceEqDiff, Nat.reduceAdd, hF, h23, c1, c2]
    have := hQ H3 hE13
    rwa [matErr, if_neg (by simpa using hF), if_pos (.inr (.inl c2))] at this
  by_cases c3 : (256 : Int) < rows.length
  · simp (disch := first | assumption | omega) only [↓RP, RQ, TY, loadT, reduceIte, Nat.reduceEqDiff, Nat.reduceAdd, hF, h23, c1, c2, c3, hv3.run]
    have := hQ H3 hE13
    rwa [matErr, if_neg (by simpa using hF), if_pos (.inr (.inr (.inl (by omega))))] at this
  simp (disch := first | assumption | omega) only [↓RP, RQ, TY, loadT, reduceIte, Nat.reduceEqDiff, Nat.reduceAdd, hF, h23, c1, c2, c3, hv3.run]
  refine sw_loop (σ := Nat) (fun i e H' => e 6 = .int .i64 i ∧ e 3 = .ptr b2 0 ∧ e 2 = .ptr b 0 ∧ H' = H3 ∧ i ≤ rows.length ∧ ∀ j, j < i → ((rowAt rows j).length : Int) = cols) (fun i => rows.length - i) 0 ?_ ?_
  · simp (disch := first | assumption | omega) only [↓RP, RQ, TY, loadT, reduceIte, Nat.reduceEqDiff, Nat.reduceAdd]
    exact ⟨by omega, fun j hj => by omega⟩
  rintro i e H' ⟨e6, e3, e2, rfl, hi, hj⟩
  by_cases hlt : (i : Int) < rows.length
  · have hri := hv3.row i (by omega)
    by_cases hc : ((rowAt rows i).length : Int) = cols
    · simp (disch := first | assumption | omega) only [↓RP, RQ, TY, loadT, reduceIte, Nat.reduceEqDiff, Nat.reduceAdd, e6, e3, e2, hlt, h23, hv3.run, hri.ints, eq_true hc]
      refine ⟨i + 1, ?_, by dsimp only; omega⟩
      simp (disch := first | assumption | omega) only [↓RP, RQ, TY, loadT, reduceIte, Nat.reduceEqDiff, Nat.reduceAdd, e6, e3, e2]
      refine ⟨by omega, fun j h => ?_⟩
      by_cases hji : j = i
      · rw [hji]; exact hc
      · exact hj j (by omega)
    · simp (disch := first | assumption | omega) only [↓RP, RQ, TY, loadT, reduceIte, Nat.reduceEqDiff, Nat.reduceAdd, e6, e3, e2, hlt, h23, hv3.run, hri.ints, eq_false hc]
      have := hQ H' hE13
      rwa [matErr, if_neg (by simpa using hF), if_pos (.inr (.inr (.inr ⟨i, by omega, hc⟩)))] at this
  have hjj : ∀ j, j < rows.length → ((rowAt rows j).length : Int) = cols := fun j h => hj j (by omega)
  simp (disch := first | assumption | omega) only [↓RP, RQ, TY, loadT, reduceIte, Nat.reduceEqDiff, Nat.reduceAdd, e6, e3, e2, hlt, h23, hv3.run]
  refine sw_loop (σ := Nat) (fun i e H2 => e 7 = .int .i64 i ∧ e 3 = .ptr b2 0 ∧ e 2 = .ptr b 0 ∧ Ext H' H2 ∧ i ≤ rows.length ∧ ∀ j, j < i → AllEl p m (rowAt rows j)) (fun i => rows.length - i) 0 ?_ ?_
  · simp (disch := first | assumption | omega) only [↓RP, RQ, TY, loadT, reduceIte, Nat.reduceEqDiff, Nat.reduceAdd, e3, e2]
    exact ⟨Ext.refl _, by omega, fun j hj => by omega⟩
  rintro i e H2 ⟨e7, e3, e2, hE4, hi, hj⟩
  have h14 := hE4.rw h13
  have h24 := hE4.rw h23
  have hv4 := hv3.ext hE4
  have n3 : ¬ (cols < 0 ∨ 256 < cols ∨ 256 < rows.length ∨ (∃ i, i < rows.length ∧ ((rowAt rows i).length : Int) ≠ cols)) := by
    rintro (q | q | q | ⟨i, q1, q2⟩)
    · omega
    · omega
    · omega
    · exact q2 (hjj i q1)
  by_cases hlt : (i : Int) < rows.length
  · simp (disch := first | assumption | omega) only [↓RP, RQ, TY, loadT, reduceIte, Nat.reduceEqDiff, Nat.reduceAdd, e7, e3, e2, hlt, h24, h14, hv4.run]
    refine c_Entries (hv4.row i (by omega)) (hlr i (by omega)) fun H5 hE5 => ?_
    have h15 := hE5.rw h14
    have h25 := hE5.rw h24
    have hv5 := hv4.ext hE5
    by_cases hc : AllEl p m (rowAt rows i)
    · simp (disch := first | assumption | omega) only [↓RP, RQ, TY, loadT, reduceIte, Nat.reduceEqDiff, Nat.reduceAdd, e7, e3, e2, hc, h25, h15, hv5.run, Int.reduceEq, Int.reduceNe]
      refine ⟨i + 1, ?_, by dsimp only; omega⟩
      simp (disch := first | assumption | omega) only [↓RP, RQ, TY, loadT, reduceIte, Nat.reduceEqDiff, Nat.reduceAdd, e7, e3, e2]
      refine ⟨hE4.trans hE5, by omega, fun j h => ?_⟩
      by_cases hji : j = i
      · rw [hji]; exact hc
      · exact hj j (by omega)
    · simp (disch := first | assumption | omega) only [↓RP, RQ, TY, loadT, reduceIte, Nat.reduceEqDiff, Nat.reduceAdd, e7, e3, e2, hc, h25, h15, hv5.run, Int.reduceEq, Int.reduceNe]
      have := hQ H5 ((hE13.trans hE4).trans hE5)
      rwa [matErr, if_neg (by simpa using hF), if_neg n3, if_pos ⟨i, by omega, hc⟩] at this
  · simp (disch := first | assumption | omega) only [↓RP, RQ, TY, loadT, reduceIte, Nat.reduceEqDiff, Nat.reduceAdd, e7, e3, e2, hlt, h24, hv4.run]
    have := hQ H2 (hE13.trans hE4)
    rwa [matErr, if_neg (by simpa using hF), if_neg n3, if_neg (fun ⟨j, q1, q2⟩ => q2 (hj j (by omega)))] at this
end Go.Proofs.Yteijojnahpeglaa.AM
/-! The reference's spaces and codes: Check; subsets. -/
namespace Go.Proofs.Yteijojnahpeglaa.AM
open Go Go.RowKit
set_option linter.unusedVariables false
set_option linter.unusedSimpArgs false
set_option maxRecDepth 20000
/-- a field that the check lets in is a field -/
def FOk : Prop := ∀ p m mod, FieldOk p m mod → (fF p m mod).Ok
theorem FieldOk.rm {p m : Int} {mod : List Int} (h : FieldOk p m mod) : Rng p mod := by
  obtain ⟨h1, h2, h3⟩ := h
  rcases h3 with ⟨-, rfl⟩ | ⟨-, -, h, -⟩
  · have := (ordr_pos h1).1
    intro i
    simp
    omega
  · exact h
theorem FieldOk.lm {p m : Int} {mod : List Int} (h : FieldOk p m mod) (hm : m ≠ 1) : (mod.length : Int) = m := by
  rcases h.2.2 with ⟨q, -⟩ | ⟨-, q, -⟩
  · exact (hm q).elim
  · exact q
theorem FOk.fa (FO : FOk) {H : AH} {p m : Int} {md : AV} {mod : List Int} (h : FieldOk p m mod) (hm : Ints H md mod) : FA H p m md mod := ⟨hm, h.rm, h.lm, FO _ _ _ h⟩
open Classical in
/-- the error of a space -/
noncomputable def spcErr (p m : Int) (mod : List Int) (cols : Int) (rows : List (List Int)) : Int :=
  if matErr p m mod cols rows ≠ 0 then matErr p m mod cols rows else if (canon (fF p m mod) rows cols.toNat).1 = rows then 0 else 5
open Classical in
/-- the error of a code -/
noncomputable def codeErr (p m : Int) (mod : List Int) (n : Int) (rows : List (List Int)) : Int :=
  if ¬ FieldOk p m mod then 1 else if n < 1 ∨ 64 < n then 4 else spcErr p m mod n rows
theorem mat_ok {p m : Int} {mod : List Int} {cols : Int} {rows : List (List Int)} (h : matErr p m mod cols rows = 0) :
    FieldOk p m mod ∧ 0 ≤ cols ∧ cols ≤ 256 ∧ rows.length ≤ 256 ∧ Rect cols.toNat rows ∧ Els (fF p m mod) rows := by
  unfold matErr at h
  split at h
  · cases h
  rename_i h1
  split at h
  · cases h
  rename_i h2
  split at h
  · cases h
  rename_i h3
  have h1 : FieldOk p m mod := by simpa using h1
  simp only [not_or, not_exists, not_and, Classical.not_not] at h2 h3
  refine ⟨h1, by omega, by omega, by omega, fun i hi => ?_, fun i j => ?_⟩
  · have := h2.2.2.2 i hi
    omega
  · by_cases hi : i < rows.length
    · by_cases hj : j < (rowAt rows i).length
      · exact h3 i hi j hj
      · rw [ent, getD_len _ (by omega)]
        have := (ordr_pos h1.1)
        have h5 : 0 < ordr p m := by rw [this.2.2.2.2]; exact Int.pow_pos (by omega)
        exact ⟨Int.le_refl _, h5⟩
    · rw [ent_ge _ (by omega)]
      have := (ordr_pos h1.1)
      have h5 : 0 < ordr p m := by rw [this.2.2.2.2]; exact Int.pow_pos (by omega)
      exact ⟨Int.le_refl _, h5⟩
theorem c_Check10 (FO : FOk) {p m cols : Int} {md v : AV} {mod : List Int} {us : List AV} {rows : List (List Int)} {H : AH} {Q : AV → AH → Prop} (hm : Ints H md mod) (hv : Rows H v us rows) (hl : rows.length ≤ 9223372036854775807) (hlr : ∀ i, i < rows.length → (rowAt rows i).length ≤ 9223372036854775807)
    (hQ : ∀ H', Ext H H' → Q (.int .i64 (spcErr p m mod cols rows)) H') : AC Try.prog 33 [.agg [.int .i64 p, .int .i64 m, md], .agg [.int .i64 cols, v]] H Q := by
  refine at33 (by simp) ?_
  simp (disch := first | assumption | omega) only [↓RP, RQ, TY, loadT, s33, reduceIte, Nat.reduceEqDiff, Nat.reduceAdd]
  refine kNew_intro fun b H1 hb hE1 hH1 => ?_
  simp (disch := first | assumption | omega) only [↓RP, RQ, TY, loadT, reduceIte, Nat.reduceEqDiff, Nat.reduceAdd, hH1]
  refine kNew_intro fun b2 H2 hb2 hE2 hH2 => ?_
  have hH12 := hE2.rw hH1
  have hE12 := hE1.trans hE2
  simp (disch := first | assumption | omega) only [↓RP, RQ, TY, loadT, reduceIte, Nat.reduceEqDiff, Nat.reduceAdd, hH12, hH2]
  refine c_Check09 (hm.ext hE12) (hv.ext hE12) hl hlr fun H3 hE3 => ?_
  have hE13 := hE12.trans hE3
  have h13 := hE3.rw hH12
  have h23 := hE3.rw hH2
  by_cases h0 : matErr p m mod cols rows = 0
  rotate_left
  · simp (disch := first | assumption | omega) only [↓RP, RQ, TY, loadT, reduceIte, Nat.reduceEqDiff, Nat.reduceAdd, h0]
    have := hQ H3 hE13
    rwa [spcErr, if_pos h0] at this
  obtain ⟨o1, o2, o3, o4, o5, o6⟩ := mat_ok h0
  have hc : ((cols.toNat : Nat) : Int) = cols := by omega
  simp (disch := first | assumption | omega) only [↓RP, RQ, TY, loadT, reduceIte, Nat.reduceEqDiff, Nat.reduceAdd, h0, h13, h23]
  rw [← hc]
  refine c_Canon (FO.fa o1 (hm.ext hE13)) (hv.ext hE13) o5 o6 (by omega) (by omega) (Nat.le_refl _) fun lv pv us' H4 hE4 hr4 hp4 => ?_
  have h24 := hE4.rw h23
  have hE14 := hE13.trans hE4
  simp (disch := first | assumption | omega) only [↓RP, RQ, TY, loadT, reduceIte, Nat.reduceEqDiff, Nat.reduceAdd, h24]
  have hle : (canon (fF p m mod) rows cols.toNat).1.length ≤ rows.length := by
    rw [canon]
    have := elim_length (F := fF p m mod) rows cols.toNat
    simp [this]
    omega
  refine c_SameRows hr4 (hv.ext hE14) (by omega) (by omega) (fun i hi => ?_) (fun i hi => by rw [o5 i hi]; omega) ?_
  · have h5 := elim_rect (F := fF p m mod) o5 cols.toNat i (by rw [elim_length]; omega)
    rw [canon]
    rw [canon] at hi
    dsimp only at hi ⊢
    rw [List.length_take] at hi
    rw [rowAt_take (by omega), h5]
    omega
  by_cases he : (canon (fF p m mod) rows cols.toNat).1 = rows
  · simp (disch := first | assumption | omega) only [↓RP, RQ, TY, loadT, reduceIte, Nat.reduceEqDiff, Nat.reduceAdd, he]
    have := hQ H4 hE14
    rwa [spcErr, if_neg (by simpa using h0), if_pos he] at this
  · simp (disch := first | assumption | omega) only [↓RP, RQ, TY, loadT, reduceIte, Nat.reduceEqDiff, Nat.reduceAdd, he]
    have := hQ H4 hE14
    rwa [spcErr, if_neg (by simpa using h0), if_neg he] at this
theorem fill_mat {n : Int} {k : IntKind} {v a b : AV} (hv : v.isSl = true) : aFill (fun i => [(0, 1), (1, 1)][i]?) [a, b] [(0, .int k n), (1, v)] = some [.int k n, v] := by
  cases v <;> first | rfl | (simp [AV.isSl] at hv)
/-- a code's value -/
abbrev codeV (p m : Int) (md : AV) (n : Int) (g : AV) : AV := .agg [.int .i64 p, .int .i64 m, md, .int .i64 n, g]
theorem c_Check12 (FO : FOk) {p m n : Int} {md v : AV} {mod : List Int} {us : List AV} {rows : List (List Int)} {H : AH} {Q : AV → AH → Prop} (hm : Ints H md mod) (hv : Rows H v us rows) (hl : rows.length ≤ 9223372036854775807) (hlr : ∀ i, i < rows.length → (rowAt rows i).length ≤ 9223372036854775807)
    (hQ : ∀ H', Ext H H' → Q (.int .i64 (codeErr p m mod n rows)) H') : AC Try.prog 15 [codeV p m md n v] H Q := by
  refine at15 (by simp) ?_
  simp (disch := first | assumption | omega) only [↓RP, RQ, TY, loadT, s15, reduceIte, Nat.reduceEqDiff, Nat.reduceAdd]
  refine kNew_intro fun b H1 hb hE1 hH1 => ?_
  simp (disch := first | assumption | omega) only [↓RP, RQ, TY, loadT, reduceIte, Nat.reduceEqDiff, Nat.reduceAdd, hH1]
  refine c_Check04 (hm.ext hE1) fun H2 hE2 => ?_
  have hE12 := hE1.trans hE2
  have h12 := hE2.rw hH1
  by_cases hF : FieldOk p m mod
  rotate_left
  · simp (disch := first | assumption | omega) only [↓RP, RQ, TY, loadT, reduceIte, Nat.reduceEqDiff, Nat.reduceAdd, hF, Int.reduceEq, Int.reduceNe]
    have := hQ H2 hE12
    rwa [codeErr, if_pos hF] at this
  by_cases c1 : n < 1
  · simp (disch := first | assumption | omega) only [↓RP, RQ, TY, loadT, reduceIte, Nat.reduceEqDiff, Nat.reduceAdd, hF, h12, c1]
    have := hQ H2 hE12
    rwa [codeErr, if_neg (by simpa using hF), if_pos (.inl c1)] at this
  by_cases c2 : 64 < n
  · simp (disch := first | assumption | omega) only [↓RP, RQ, TY, loadT, reduceIte, Nat.reduceEqDiff, Nat.reduceAdd, hF, h12, c1, c2]
    have := hQ H2 hE12
    rwa [codeErr, if_neg (by simpa using hF), if_pos (.inr c2)] at this
  simp (disch := first | assumption | omega) only [↓RP, RQ, TY, loadT, reduceIte, Nat.reduceEqDiff, Nat.reduceAdd, hF, h12, c1, c2, fill_mat hv.sl.isSl]
  refine c_Check10 FO (hm.ext hE12) (hv.ext hE12) hl hlr fun H3 hE3 => ?_
  simp (disch := first | assumption | omega) only [↓RP, RQ, TY, loadT, reduceIte, Nat.reduceEqDiff, Nat.reduceAdd]
  have := hQ H3 (hE12.trans hE3)
  rwa [codeErr, if_neg (by simpa using hF), if_neg (by omega)] at this
/-- strictly ascending numbers from 0 to n-1 -/
def Subset (n : Int) (s : List Int) : Prop := ∀ i, i < s.length → 0 ≤ s.getD i 0 ∧ s.getD i 0 < n ∧ (0 < i → s.getD (i - 1) 0 < s.getD i 0)
open Classical in
theorem c_IsSubset {n : Int} {v : AV} {s : List Int} {H : AH} {Q : AV → AH → Prop} (hv : Ints H v s) (hl : s.length ≤ 9223372036854775807) (hQ : Q (.bool (decide (Subset n s))) H) : AC Try.prog 16 [.int .i64 n, v] H Q := by
  refine at16 (by simp) ?_
  simp (disch := first | assumption | omega) only [↓RP, RQ, TY, loadT, s16, reduceIte, Nat.reduceEqDiff, Nat.reduceAdd]
  refine sw_loop (σ := Nat) (fun i e H' => e 5 = .int .i64 i ∧ e 0 = .int .i64 n ∧ e 1 = v ∧ i ≤ s.length ∧ H' = H ∧ ∀ j, j < i → 0 ≤ s.getD j 0 ∧ s.getD j 0 < n ∧ (0 < j → s.getD (j - 1) 0 < s.getD j 0)) (fun i => s.length - i) 0 ?_ ?_
  · simp (disch := first | assumption | omega) only [↓RP, RQ, TY, loadT, reduceIte, Nat.reduceEqDiff, Nat.reduceAdd]
    exact ⟨by omega, fun j hj => by omega⟩
  rintro i e H' ⟨e5, e0, e1, hi, rfl, hj⟩
  by_cases hlt : (i : Int) < s.length
  · by_cases c1 : s.getD i 0 < 0
    · simp (disch := first | assumption | omega) only [↓RP, RQ, TY, loadT, reduceIte, Nat.reduceEqDiff, Nat.reduceAdd, e5, e0, e1, hlt, hv.ints, c1]
      rwa [decide_eq_false (fun q => absurd (q i (by omega)).1 (by omega))] at hQ
    by_cases c2 : n ≤ s.getD i 0
    · simp (disch := first | assumption | omega) only [↓RP, RQ, TY, loadT, reduceIte, Nat.reduceEqDiff, Nat.reduceAdd, e5, e0, e1, hlt, hv.ints, c1, c2]
      rwa [decide_eq_false (fun q => absurd (q i (by omega)).2.1 (by omega))] at hQ
    by_cases c3 : (0 : Int) < i
    · have ei : ((i : Int) - 1).toNat = i - 1 := by omega
      by_cases c4 : s.getD i 0 ≤ s.getD (i - 1) 0
      · simp (disch := first | assumption | omega) only [↓RP, RQ, TY, loadT, reduceIte, Nat.reduceEqDiff, Nat.reduceAdd, e5, e0, e1, hlt, hv.ints, c1, c2, c3, ei, c4]
        rwa [decide_eq_false (fun q => absurd ((q i (by omega)).2.2 (by omega)) (by omega))] at hQ
      · simp (disch := first | assumption | omega) only [↓RP, RQ, TY, loadT, reduceIte, Nat.reduceEqDiff, Nat.reduceAdd, e5, e0, e1, hlt, hv.ints, c1, c2, c3, ei, c4]
        refine ⟨i + 1, ?_, by dsimp only; omega⟩
        simp (disch := first | assumption | omega) only [↓RP, RQ, TY, loadT, reduceIte, Nat.reduceEqDiff, Nat.reduceAdd, e5, e0, e1]
        refine ⟨by omega, fun j h => ?_⟩
        by_cases hji : j = i
        · rw [hji]; exact ⟨by omega, by omega, fun _ => by omega⟩
        · exact hj j (by omega)
    · simp (disch := first | assumption | omega) only [↓RP, RQ, TY, loadT, reduceIte, Nat.reduceEqDiff, Nat.reduceAdd, e5, e0, e1, hlt, hv.ints, c1, c2, c3]
      refine ⟨i + 1, ?_, by dsimp only; omega⟩
      simp (disch := first | assumption | omega) only [↓RP, RQ, TY, loadT, reduceIte, Nat.reduceEqDiff, Nat.reduceAdd, e5, e0, e1]
      refine ⟨by omega, fun j h => ?_⟩
      by_cases hji : j = i
      · rw [hji]; exact ⟨by omega, by omega, fun _ => by omega⟩
      · exact hj j (by omega)
  · simp (disch := first | assumption | omega) only [↓RP, RQ, TY, loadT, reduceIte, Nat.reduceEqDiff, Nat.reduceAdd, e5, e0, e1, hlt, hv.ints]
    rwa [decide_eq_true (show Subset n s from fun j hj' => hj j (by omega))] at hQ
end Go.Proofs.Yteijojnahpeglaa.AM
/-! The reference's orderings, first part: Others, rank, Of, Dimension. -/
namespace Go.Proofs.Yteijojnahpeglaa.AM
open Go Go.RowKit
set_option linter.unusedVariables false
set_option linter.unusedSimpArgs false
set_option maxRecDepth 20000
def bools (xs : List Bool) : List AV := xs.map AV.bool
theorem bools_length (xs : List Bool) : (bools xs).length = xs.length := by simp [bools]
theorem bools_set {xs : List Bool} {i : Nat} {w : Bool} : (bools xs).set i (.bool w) = bools (xs.set i w) := by simp [bools, List.map_set]
theorem bools_get {xs : List Bool} {i : Nat} (h : i < xs.length) : (bools xs)[i]? = some (.bool (xs.getD i false)) := by
  simp [bools, h, List.getD_eq_getElem?_getD]
theorem bools_repl {n : Nat} {w : Bool} : List.replicate n (AV.bool w) = bools (List.replicate n w) := by simp [bools]
/-- the positions below n that are not in set -/
def othersN (n : Nat) (set : List Int) : List Nat := (List.range n).filter fun i => !set.contains (i : Int)
/-- positions of a code of length n -/
def Poss (n : Int) (set : List Int) : Prop := ∀ i, i < set.length → 0 ≤ set.getD i 0 ∧ set.getD i 0 < n
theorem othersN_succ (n : Nat) (set : List Int) : othersN (n + 1) set = othersN n set ++ if set.contains (n : Int) = true then [] else [n] := by
  simp only [othersN, List.range_succ, List.filter_append, List.filter_cons, List.filter_nil]
  cases h : set.contains (n : Int) <;> rfl
theorem othersN_length (n : Nat) (set : List Int) : (othersN n set).length ≤ n := by
  have := List.length_filter_le (fun i : Nat => !set.contains (i : Int)) (List.range n)
  simpa [othersN] using this
theorem mem_take_succ {set : List Int} {i : Nat} (hi : i < set.length) (x : Int) : x ∈ set.take (i + 1) ↔ x ∈ set.take i ∨ x = set.getD i 0 := by
  rw [← take_push 0 hi, List.mem_append, List.mem_singleton]
theorem c_Others {n : Int} {v : AV} {set : List Int} {H : AH} {Q : AV → AH → Prop} (hn : 0 ≤ n) (hn' : n ≤ 1000) (hv : Ints H v set) (hl : set.length ≤ 9223372036854775807) (hp : Poss n set)
    (hQ : ∀ w H', Ext H H' → Own H H' w (ints (natsI (othersN n.toNat set))) → Q w H') : AC Try.prog 14 [.int .i64 n, v] H Q := by
  refine at14 (by simp) ?_
  simp (disch := first | assumption | omega) only [↓RP, RQ, TY, loadT, s14, reduceIte, Nat.reduceEqDiff, Nat.reduceAdd]
  refine kNew_intro fun b H1 hb hE hH1 => ?_
  rw [bools_repl] at hH1
  simp (disch := first | assumption | omega) only [↓RP, RQ, TY, loadT, reduceIte, Nat.reduceEqDiff, Nat.reduceAdd]
  refine sw_loop (σ := Nat × List Bool) (fun s e H' => e 6 = .int .i64 s.1 ∧ e 5 = .sl b 0 n.toNat (.own 1) ∧ e 0 = .int .i64 n ∧ e 1 = v ∧ s.1 ≤ set.length ∧ Ext H H' ∧ H' b = .rw (bools s.2) ∧ s.2.length = n.toNat ∧
    ∀ j, j < n.toNat → (s.2.getD j false = true ↔ (j : Int) ∈ set.take s.1)) (fun s => set.length - s.1) (0, List.replicate n.toNat false) ?_ ?_
  · simp (disch := first | assumption | omega) only [↓RP, RQ, TY, loadT, reduceIte, Nat.reduceEqDiff, Nat.reduceAdd]
    refine ⟨by omega, hE, hH1, by simp, fun j hj => ?_⟩
    simp [List.getD_eq_getElem?_getD, hj]
  rintro ⟨i, L⟩ e H' ⟨e6, e5, e0, e1, hi, hE', hb', hL, hLs⟩
  dsimp only at *
  have hv' := hv.ext hE'
  by_cases hlt : (i : Int) < set.length
  · have h1 := hp i (by omega)
    have hbl := bools_length L
    simp (disch := first | assumption | omega) only [↓RP, RQ, TY, loadT, reduceIte, Nat.reduceEqDiff, Nat.reduceAdd, e6, e5, e0, e1, hlt, hv'.ints, hb', bools_set]
    refine ⟨(i + 1, L.set (set.getD i 0).toNat true), ?_, by dsimp only; omega⟩
    simp (disch := first | assumption | omega) only [↓RP, RQ, TY, loadT, reduceIte, Nat.reduceEqDiff, Nat.reduceAdd, e6, e5, e0, e1]
    refine ⟨by omega, hE'.upd hb _, by simpa using hL, fun j hj => ?_⟩
    rw [mem_take_succ (by omega), getD_setN, ← hLs j hj]
    by_cases hjs : j = (set.getD i 0).toNat
    · rw [if_pos ⟨hjs, by omega⟩]
      exact ⟨fun _ => .inr (by omega), fun _ => rfl⟩
    · rw [if_neg (fun q => hjs q.1)]
      constructor
      · exact .inl
      · rintro (q | q)
        · exact q
        · omega
  have hLs' : ∀ j, j < n.toNat → (L.getD j false = set.contains (j : Int)) := fun j hj => by
    have := hLs j hj
    rw [List.take_of_length_le (by omega)] at this
    rw [Bool.eq_iff_iff, this]
    simp
  simp (disch := first | assumption | omega) only [↓RP, RQ, TY, loadT, reduceIte, Nat.reduceEqDiff, Nat.reduceAdd, e6, e5, e0, e1, hlt, hv'.ints]
  refine kNew_intro fun b2 H2 hb2 hE2 hH2 => ?_
  have n1 : b ≠ b2 := fun q => by rw [← q, hb'] at hb2; cases hb2
  simp (disch := first | assumption | omega) only [↓RP, RQ, TY, loadT, reduceIte, Nat.reduceEqDiff, Nat.reduceAdd, e6, e5, e0, e1]
  have f2 := hE'.free hb2
  refine sw_loop (σ := Nat × AV) (fun s e H' => e 8 = .int .i64 s.1 ∧ e 7 = s.2 ∧ e 5 = .sl b 0 n.toNat (.own 1) ∧ e 0 = .int .i64 n ∧ s.1 ≤ n.toNat ∧ Ext H H' ∧ H' b = .rw (bools L) ∧ Off s.2 b ∧ Own H H' s.2 (ints (natsI (othersN s.1 set)))) (fun s => n.toNat - s.1) (0, .sl b2 0 0 (.own 1)) ?_ ?_
  · simp (disch := first | assumption | omega) only [↓RP, RQ, TY, loadT, reduceIte, Nat.reduceEqDiff, Nat.reduceAdd, e6, e5, e0, e1]
    refine ⟨by omega, hE'.trans hE2, hE2.rw hb', fun o n c q => (by cases q; exact n1 rfl), Own.mk hH2 f2 rfl⟩
  rintro ⟨i, w⟩ e H3 ⟨e8, e7, e5, e0, hi, hE3, hb3, hoff, ho⟩
  dsimp only at *
  by_cases hin : (i : Int) < n
  rotate_left
  · simp (disch := first | assumption | omega) only [↓RP, RQ, TY, loadT, reduceIte, Nat.reduceEqDiff, Nat.reduceAdd, e8, e7, e5, e0, hin]
    have := hQ w H3 hE3
    rw [show n.toNat = i by omega] at this
    exact this ho
  have hlo := othersN_length i set
  have hLi := hLs' i (by omega)
  cases hc : set.contains (i : Int)
  · simp (disch := first | assumption | omega) only [↓RP, RQ, TY, loadT, reduceIte, Nat.reduceEqDiff, Nat.reduceAdd, e8, e7, e5, e0, hin, hb3, bools_get, hLi, hc, Bool.not_false]
    refine kNew_intro fun b4 H4 hb4 hE4 hH4 => ?_
    have hb34 := hE4.rw hb3
    simp (disch := first | assumption | omega) only [↓RP, RQ, TY, loadT, reduceIte, Nat.reduceEqDiff, Nat.reduceAdd, e8, e7, e5, e0]
    refine kApp_own (H0 := H) (us := ints [(i : Int)]) (ho.ext hE4) (hE3.trans hE4) (Sl.own hH4 rfl) ints_ones (by simp [ints_length, natsI_length]; omega) (by simp [ints_length, natsI_length]; omega) fun v5 H5 hE5 ho5 keep5 => ?_
    simp (disch := first | assumption | omega) only [↓RP, RQ, TY, loadT, reduceIte, Nat.reduceEqDiff, Nat.reduceAdd, e8, e7, e5, e0]
    refine ⟨(i + 1, v5), ?_, by dsimp only; omega⟩
    simp (disch := first | assumption | omega) only [↓RP, RQ, TY, loadT, reduceIte, Nat.reduceEqDiff, Nat.reduceAdd, e8, e7, e5, e0]
    obtain ⟨k1, k2⟩ := keep5 b _ hb34 hoff
    refine ⟨by omega, hE5, k1, k2, ?_⟩
    rw [othersN_succ, hc]
    rw [ints_app] at ho5
    simpa [natsI] using ho5
  · simp (disch := first | assumption | omega) only [↓RP, RQ, TY, loadT, reduceIte, Nat.reduceEqDiff, Nat.reduceAdd, e8, e7, e5, e0, hin, hb3, bools_get, hLi, hc, Bool.not_true]
    refine ⟨(i + 1, w), ?_, by dsimp only; omega⟩
    simp (disch := first | assumption | omega) only [↓RP, RQ, TY, loadT, reduceIte, Nat.reduceEqDiff, Nat.reduceAdd, e8, e7, e5, e0]
    refine ⟨by omega, hE3, hb3, hoff, ?_⟩
    rw [othersN_succ, hc]
    simpa using ho
/-- the rank of the columns at the positions set, as the reference counts it -/
noncomputable def rankS (p m : Int) (mod : List Int) (rows : List (List Int)) (set : List Int) : Nat := (elim (fF p m mod) (rows.map fun r => pickL r set) set.length).2.length
/-- a good code in the heap -/
structure CA (H : AH) (p m : Int) (md : AV) (mod : List Int) (n : Int) (v : AV) (us : List AV) (rows : List (List Int)) : Prop where
  fa : FA H p m md mod
  n1 : 1 ≤ n
  n64 : n ≤ 64
  rv : Rows H v us rows
  rect : Rect n.toNat rows
  els : Els (fF p m mod) rows
  kn : rows.length ≤ n.toNat
theorem CA.ext {H H' : AH} {p m : Int} {md : AV} {mod : List Int} {n : Int} {v : AV} {us : List AV} {rows : List (List Int)} (h : CA H p m md mod n v us rows) (hE : Ext H H') : CA H' p m md mod n v us rows :=
  ⟨h.fa.ext hE, h.n1, h.n64, h.rv.ext hE, h.rect, h.els, h.kn⟩
theorem pickL_length (r set : List Int) : (pickL r set).length = set.length := by simp [pickL, tabN]
theorem rowAt_map {f : List Int → List Int} {l : List (List Int)} {i : Nat} (h : i < l.length) : rowAt (l.map f) i = f (rowAt l i) := by
  simp [rowAt, List.getD_eq_getElem?_getD, h]
theorem pick_rect (rows : List (List Int)) (set : List Int) : Rect set.length (rows.map fun r => pickL r set) := fun i hi => by
  rw [List.length_map] at hi
  rw [rowAt_map hi, pickL_length]
theorem pick_ent {rows : List (List Int)} {set : List Int} (i : Nat) {j : Nat} (hj : j < set.length) : ent (rows.map fun r => pickL r set) i j = ent rows i (set.getD j 0).toNat := by
  by_cases hi : i < rows.length
  · rw [ent, rowAt_map hi, pickL, tabN_getD _ hj]; rfl
  · rw [ent_ge _ (by simp; omega), ent_ge _ (by omega)]
theorem pick_els {F : FOps} {rows : List (List Int)} (h0 : F.El 0) (set : List Int) (he : Els F rows) : Els F (rows.map fun r => pickL r set) := fun i j => by
  by_cases hj : j < set.length
  · rw [pick_ent i hj]; exact he _ _
  · rw [ent_col (pick_rect rows set) i (by omega)]; exact h0
theorem map_take_push {l : List (List Int)} {i : Nat} (f : List Int → List Int) (h : i < l.length) : (l.map f).take i ++ [f (rowAt l i)] = (l.map f).take (i + 1) := by
  rw [← take_push [] (show i < (l.map f).length by simpa using h)]
  rw [← rowAt_map (f := f) h]; rfl
theorem c_rank48 {p m n : Int} {md v sv : AV} {mod set : List Int} {us : List AV} {rows : List (List Int)} {H : AH} {Q : AV → AH → Prop} (hc : CA H p m md mod n v us rows) (hs : Ints H sv set) (hp : Poss n set) (hl : set.length ≤ 1000)
    (hQ : ∀ H', Ext H H' → Q (.int .i64 (rankS p m mod rows set : Nat)) H') : AC Try.prog 49 [codeV p m md n v, sv] H Q := by
  have k64 : rows.length ≤ 64 := by have := hc.kn; have := hc.n64; omega
  refine at49 (by simp) ?_
  simp (disch := first | assumption | omega) only [↓RP, RQ, TY, loadT, s49, reduceIte, Nat.reduceEqDiff, Nat.reduceAdd]
  refine kNew_intro fun b H1 hb hE1 hH1 => ?_
  simp (disch := first | assumption | omega) only [↓RP, RQ, TY, loadT, reduceIte, Nat.reduceEqDiff, Nat.reduceAdd, hH1]
  refine kNew_intro fun b2 H2 hb2 hE2 hH2 => ?_
  have hE12 := hE1.trans hE2
  have f2 := hE1.free hb2
  simp (disch := first | assumption | omega) only [↓RP, RQ, TY, loadT, reduceIte, Nat.reduceEqDiff, Nat.reduceAdd]
  refine sw_loop (σ := Nat × AV × List AV) (fun s e H' => e 6 = .int .i64 s.1 ∧ e 5 = s.2.1 ∧ e 1 = sv ∧ e 2 = .ptr b 0 ∧ s.1 ≤ rows.length ∧ Ext H H' ∧ H' b = .rw [.int .i64 p, .int .i64 m, md, .int .i64 n, v] ∧ Own H H' s.2.1 s.2.2 ∧
    RowsB H' s.2.2 ((rows.map fun r => pickL r set).take s.1)) (fun s => rows.length - s.1) (0, .sl b2 0 0 (.own 1), []) ?_ ?_
  · simp (disch := first | assumption | omega) only [↓RP, RQ, TY, loadT, reduceIte, Nat.reduceEqDiff, Nat.reduceAdd]
    exact ⟨by omega, hE12, hE2.rw hH1, Own.mk hH2 f2 rfl, RowsB.nil⟩
  rintro ⟨i, w, ws⟩ e H' ⟨e6, e5, e1, e2, hi, hE, hb', ho, hB⟩
  dsimp only at *
  have hr' := hc.rv.ext hE
  by_cases hlt : (i : Int) < rows.length
  · simp (disch := first | assumption | omega) only [↓RP, RQ, TY, loadT, reduceIte, Nat.reduceEqDiff, Nat.reduceAdd, e6, e5, e1, e2, hlt, hb', hr'.run]
    refine c_Pick (hr'.row i (by omega)) (hs.ext hE) hl (fun j hj => by have := hp j hj; rw [hc.rect i (by omega)]; omega) fun b3 H3 hb3 hE3 hH3 => ?_
    have hb3' := hE3.rw hb'
    have lp := pickL_length (rowAt rows i) set
    have hsl : (AV.sl b3 0 set.length (.own 1)).isSl = true := rfl
    simp (disch := first | assumption | omega) only [↓RP, RQ, TY, loadT, reduceIte, Nat.reduceEqDiff, Nat.reduceAdd, e6, e5, e1, e2, u_buildS1V]
    refine kNew_intro fun b4 H4 hb4 hE4 hH4 => ?_
    simp (disch := first | assumption | omega) only [↓RP, RQ, TY, loadT, reduceIte, Nat.reduceEqDiff, Nat.reduceAdd, e6, e5, e1, e2]
    have hE04 := (hE.trans hE3).trans hE4
    have hbl := hB.len
    have hB4 := (hB.ext hE3).ext hE4
    have hs3 : Ints H4 (.sl b3 0 set.length (.own 1)) (pickL (rowAt rows i) set) := Sl.own (hE4.rw hH3) (by rw [ints_length, lp])
    refine kApp_rows (H0 := H) ((ho.ext hE3).ext hE4) hE04 (Sl.own hH4 rfl) hB.sl (fun u hu => by rw [List.mem_singleton.mp hu]; rfl) (by simp at hbl ⊢; omega) (by simp at hbl ⊢; omega) fun v5 H5 hE5 ho5 keep5 keep6 => ?_
    simp (disch := first | assumption | omega) only [↓RP, RQ, TY, loadT, reduceIte, Nat.reduceEqDiff, Nat.reduceAdd, e6, e5, e1, e2]
    refine ⟨(i + 1, v5, ws ++ [.sl b3 0 set.length (.own 1)]), ?_, by dsimp only; omega⟩
    simp (disch := first | assumption | omega) only [↓RP, RQ, TY, loadT, reduceIte, Nat.reduceEqDiff, Nat.reduceAdd, e6, e5, e1, e2]
    refine ⟨by omega, hE5, keep6 b _ (hE4.rw hb3') ⟨.int .i64 p, by simp, rfl⟩, ho5, ?_⟩
    rw [← map_take_push (fun r => pickL r set) (show i < rows.length by omega)]
    exact (hB4.keep keep5).push (keep5 _ _ hs3)
  · simp (disch := first | assumption | omega) only [↓RP, RQ, TY, loadT, reduceIte, Nat.reduceEqDiff, Nat.reduceAdd, e6, e5, e1, e2, hlt, hb', hr'.run, (hs.ext hE).ints]
    rw [List.take_of_length_le (by simp; omega)] at hB
    refine c_Canon (hc.fa.ext hE) (hB.rows ho.sl) (pick_rect rows set) (pick_els hc.fa.ok.el0 set hc.els) hl (by simp; omega) (Nat.le_refl _) fun lv pv us' H6 hE6 hr6 hp6 => ?_
    have hpi := hp6.ints
    rw [natsI_length] at hpi
    simp (disch := first | assumption | omega) only [↓RP, RQ, TY, loadT, reduceIte, Nat.reduceEqDiff, Nat.reduceAdd, hpi]
    exact hQ _ (hE.trans hE6)
/-- the dimension of a set -/
noncomputable def dimS (p m : Int) (mod : List Int) (n : Int) (rows : List (List Int)) (set : List Int) : Int := rankS p m mod rows set + rankS p m mod rows (natsI (othersN n.toNat set)) - rows.length
theorem others_poss {n : Int} (hn : 0 ≤ n) (set : List Int) : Poss n (natsI (othersN n.toNat set)) := fun i hi => by
  rw [natsI_length] at hi
  have : (natsI (othersN n.toNat set)).getD i 0 = ((othersN n.toNat set)[i] : Nat) := by simp [natsI, List.getD_eq_getElem?_getD, hi]
  rw [this]
  have h2 := List.getElem_mem hi
  simp only [othersN, List.mem_filter, List.mem_range] at h2
  simp only [othersN]
  omega
theorem rankS_le (p m : Int) (mod : List Int) (rows : List (List Int)) (set : List Int) : rankS p m mod rows set ≤ rows.length := by
  have := elim_piv (F := fF p m mod) (rows.map fun r => pickL r set) set.length
  simpa [rankS] using this
theorem c_Of {p m n : Int} {md v sv : AV} {mod set : List Int} {us : List AV} {rows : List (List Int)} {H : AH} {Q : AV → AH → Prop} (hc : CA H p m md mod n v us rows) (hs : Ints H sv set) (hp : Poss n set) (hl : set.length ≤ 1000)
    (hQ : ∀ H', Ext H H' → Q (.int .i64 (dimS p m mod n rows set)) H') : AC Try.prog 31 [codeV p m md n v, sv] H Q := by
  have n1 := hc.n1
  have n64 := hc.n64
  have k64 : rows.length ≤ 64 := by have := hc.kn; omega
  refine at31 (by simp) ?_
  simp (disch := first | assumption | omega) only [↓RP, RQ, TY, loadT, s31, reduceIte, Nat.reduceEqDiff, Nat.reduceAdd]
  refine kNew_intro fun b H1 hb hE1 hH1 => ?_
  have hr1 := hc.rv.ext hE1
  simp (disch := first | assumption | omega) only [↓RP, RQ, TY, loadT, reduceIte, Nat.reduceEqDiff, Nat.reduceAdd, hH1, hr1.run]
  refine c_rank48 (hc.ext hE1) (hs.ext hE1) hp hl fun H2 hE2 => ?_
  have hE12 := hE1.trans hE2
  have h2 := hE2.rw hH1
  have hr2 := hc.rv.ext hE12
  simp (disch := first | assumption | omega) only [↓RP, RQ, TY, loadT, reduceIte, Nat.reduceEqDiff, Nat.reduceAdd, h2, hr2.run]
  refine c_Others (by omega) (by omega) (hs.ext hE12) (by omega) hp fun w H3 hE3 ho3 => ?_
  have hE13 := hE12.trans hE3
  have h3 := hE3.rw h2
  have hr3 := hc.rv.ext hE13
  simp (disch := first | assumption | omega) only [↓RP, RQ, TY, loadT, reduceIte, Nat.reduceEqDiff, Nat.reduceAdd, h3, hr3.run]
  have ol := othersN_length n.toNat set
  refine c_rank48 (hc.ext hE13) ho3.sl (others_poss (by omega) set) (by rw [natsI_length]; omega) fun H4 hE4 => ?_
  have hE14 := hE13.trans hE4
  have h4 := hE4.rw h3
  have hr4 := hc.rv.ext hE14
  have l1 := rankS_le p m mod rows set
  have l2 := rankS_le p m mod rows (natsI (othersN n.toNat set))
  simp (disch := first | assumption | omega) only [↓RP, RQ, TY, loadT, reduceIte, Nat.reduceEqDiff, Nat.reduceAdd, h4, hr4.run]
  exact hQ _ hE14
end Go.Proofs.Yteijojnahpeglaa.AM
/-! The reference's orderings, second part: Dimension. -/
namespace Go.Proofs.Yteijojnahpeglaa.AM
open Go Go.RowKit
set_option linter.unusedVariables false
set_option linter.unusedSimpArgs false
set_option maxRecDepth 20000
theorem code_ok (FO : FOk) {p m n : Int} {mod : List Int} {rows : List (List Int)} (h : codeErr p m mod n rows = 0) :
    FieldOk p m mod ∧ 1 ≤ n ∧ n ≤ 64 ∧ Rect n.toNat rows ∧ Els (fF p m mod) rows ∧ rows.length ≤ n.toNat ∧ (elim (fF p m mod) rows n.toNat).2.length = rows.length := by
  unfold codeErr at h
  split at h
  · cases h
  rename_i h1
  split at h
  · cases h
  rename_i h2
  unfold spcErr at h
  split at h
  · contradiction
  rename_i h3
  split at h
  rotate_left
  · cases h
  rename_i h4
  obtain ⟨o1, o2, o3, o4, o5, o6⟩ := mat_ok (by simpa using h3)
  have h5 : (elim (fF p m mod) rows n.toNat).2.length = rows.length := by
    have := congrArg List.length h4
    rw [canon] at this
    have h6 := elim_length (F := fF p m mod) rows n.toNat
    have h7 := elim_piv (F := fF p m mod) rows n.toNat
    simp at this
    omega
  refine ⟨o1, by omega, by omega, o5, o6, ?_, h5⟩
  have inv := (elim_inv (FO _ _ _ o1) o5 o6 n.toNat).rk
  rw [h5] at inv
  rw [inv]
  refine Nat.le_trans (Clo.rk_le_length _ _ _) ?_
  simp
theorem FOk.ca (FO : FOk) {H : AH} {p m n : Int} {md v : AV} {mod : List Int} {us : List AV} {rows : List (List Int)} (h : codeErr p m mod n rows = 0) (hm : Ints H md mod) (hv : Rows H v us rows) : CA H p m md mod n v us rows := by
  obtain ⟨h1, h2, h3, h4, h5, h6, -⟩ := code_ok FO h
  exact ⟨FO.fa h1 hm, h2, h3, hv, h4, h5, h6⟩
theorem Subset.lt {n : Int} {s : List Int} (h : Subset n s) : ∀ i, i < s.length → (i : Int) ≤ s.getD i 0 := by
  intro i
  induction i with
  | zero => intro hi; have := (h 0 hi).1; omega
  | succ i ih =>
    intro hi
    have h1 := ih (by omega)
    have h2 := (h (i + 1) hi).2.2 (by omega)
    simp only [Nat.add_sub_cancel] at h2
    omega
theorem Subset.length {n : Int} {s : List Int} (h : Subset n s) (hn : 0 ≤ n) : (s.length : Int) ≤ n := by
  cases hs : s.length with
  | zero => omega
  | succ k =>
    have h1 := h.lt k (by omega)
    have h2 := (h k (by omega)).2.1
    omega
theorem Subset.poss {n : Int} {s : List Int} (h : Subset n s) : Poss n s := fun i hi => ⟨(h i hi).1, (h i hi).2.1⟩
open Classical in
/-- the answer of Dimension -/
noncomputable def dimErr (p m : Int) (mod : List Int) (n : Int) (rows : List (List Int)) (set : List Int) : Int := if codeErr p m mod n rows ≠ 0 then codeErr p m mod n rows else if Subset n set then 0 else 5
open Classical in
noncomputable def dimVal (p m : Int) (mod : List Int) (n : Int) (rows : List (List Int)) (set : List Int) : Int := if dimErr p m mod n rows set = 0 then dimS p m mod n rows set else 0
theorem c_Dim48 (FO : FOk) {p m n : Int} {md v sv : AV} {mod set : List Int} {us : List AV} {rows : List (List Int)} {H : AH} {Q : AV → AH → Prop} (hm : Ints H md mod) (hv : Rows H v us rows) (hs : Ints H sv set) (hl : rows.length ≤ 9223372036854775807) (hlr : ∀ i, i < rows.length → (rowAt rows i).length ≤ 9223372036854775807) (hls : set.length ≤ 9223372036854775807)
    (hQ : ∀ H', Ext H H' → Q (.tup [.int .i64 (dimVal p m mod n rows set), .int .i64 (dimErr p m mod n rows set)]) H') : AC Try.prog 12 [codeV p m md n v, sv] H Q := by
  refine at12 (by simp) ?_
  simp (disch := first | assumption | omega) only [↓RP, RQ, TY, loadT, s12, reduceIte, Nat.reduceEqDiff, Nat.reduceAdd]
  refine kNew_intro fun b H1 hb hE1 hH1 => ?_
  simp (disch := first | assumption | omega) only [↓RP, RQ, TY, loadT, reduceIte, Nat.reduceEqDiff, Nat.reduceAdd, hH1]
  refine c_Check12 FO (hm.ext hE1) (hv.ext hE1) hl hlr fun H2 hE2 => ?_
  have hE12 := hE1.trans hE2
  have h2 := hE2.rw hH1
  by_cases h0 : codeErr p m mod n rows = 0
  rotate_left
  · simp (disch := first | assumption | omega) only [↓RP, RQ, TY, loadT, reduceIte, Nat.reduceEqDiff, Nat.reduceAdd, h0]
    have := hQ H2 hE12
    rwa [dimVal, dimErr, if_pos h0, if_neg h0] at this
  have ca := FO.ca h0 (hm.ext hE12) (hv.ext hE12)
  simp (disch := first | assumption | omega) only [↓RP, RQ, TY, loadT, reduceIte, Nat.reduceEqDiff, Nat.reduceAdd, h0, h2]
  refine c_IsSubset (hs.ext hE12) hls ?_
  by_cases hS : Subset n set
  · simp (disch := first | assumption | omega) only [↓RP, RQ, TY, loadT, reduceIte, Nat.reduceEqDiff, Nat.reduceAdd, hS, h2]
    have n1 := ca.n1
    have n64 := ca.n64
    have := hS.length (by omega)
    refine c_Of ca (hs.ext hE12) hS.poss (by omega) fun H3 hE3 => ?_
    simp (disch := first | assumption | omega) only [↓RP, RQ, TY, loadT, reduceIte, Nat.reduceEqDiff, Nat.reduceAdd]
    have := hQ H3 (hE12.trans hE3)
    have e1 : dimErr p m mod n rows set = 0 := by rw [dimErr, if_neg (by simpa using h0), if_pos hS]
    rwa [dimVal, if_pos e1, e1] at this
  · simp (disch := first | assumption | omega) only [↓RP, RQ, TY, loadT, reduceIte, Nat.reduceEqDiff, Nat.reduceAdd, hS]
    have := hQ H2 hE12
    have e1 : dimErr p m mod n rows set = 5 := by rw [dimErr, if_neg (by simpa using h0), if_neg hS]
    rwa [dimVal, if_neg (by rw [e1]; decide), e1] at this
end Go.Proofs.Yteijojnahpeglaa.AM
/-! The program's field, first part: order, isPrime, digitsOf, valueOf. -/
namespace Go.Proofs.Yteijojnahpeglaa.AM
open Go Go.RowKit
set_option linter.unusedVariables false
set_option linter.unusedSimpArgs false
set_option maxRecDepth 20000
theorem c_forder {p m : Int} {H : AH} {Q : AV → AH → Prop} (hQ : Q (.int .i64 (ordr p m)) H) : AC Try.prog 64 [.int .i64 p, .int .i64 m] H Q := by
  refine at64 (by simp) ?_
  have key : ordr p m ≠ 0 → 2 ≤ p ∧ p ≤ 256 ∧ 1 ≤ m ∧ m ≤ 8 := fun h => by
    have h1 := ordr_pos h
    have h2 := ordr_p h
    omega
  by_cases h1 : p < 2
  · simp (disch := first | assumption | omega) only [↓RP, RQ, TY, loadT, s64, reduceIte, Nat.reduceEqDiff, Nat.reduceAdd, h1]
    rwa [show ordr p m = 0 from Classical.byContradiction fun q => by have := key q; omega] at hQ
  by_cases h2 : 256 < p
  · simp (disch := first | assumption | omega) only [↓RP, RQ, TY, loadT, s64, reduceIte, Nat.reduceEqDiff, Nat.reduceAdd, h1, h2]
    rwa [show ordr p m = 0 from Classical.byContradiction fun q => by have := key q; omega] at hQ
  by_cases h3 : m < 1
  · simp (disch := first | assumption | omega) only [↓RP, RQ, TY, loadT, s64, reduceIte, Nat.reduceEqDiff, Nat.reduceAdd, h1, h2, h3]
    rwa [show ordr p m = 0 from Classical.byContradiction fun q => by have := key q; omega] at hQ
  by_cases h4 : 8 < m
  · simp (disch := first | assumption | omega) only [↓RP, RQ, TY, loadT, s64, reduceIte, Nat.reduceEqDiff, Nat.reduceAdd, h1, h2, h3, h4]
    rwa [show ordr p m = 0 from Classical.byContradiction fun q => by have := key q; omega] at hQ
  simp (disch := first | assumption | omega) only [↓RP, RQ, TY, loadT, s64, reduceIte, Nat.reduceEqDiff, Nat.reduceAdd, h1, h2, h3, h4]
  refine sw_loop (σ := Nat) (fun i e H' => e 21 = .int .i64 i ∧ e 20 = .int .i64 m ∧ e 5 = .int .i64 (p ^ i) ∧ e 0 = .int .i64 p ∧ (i : Int) ≤ m ∧ p ^ i ≤ 256 ∧ H' = H) (fun i => m.toNat - i) 0 ?_ ?_
  · simp (disch := first | assumption | omega) only [↓RP, RQ, TY, loadT, reduceIte, Nat.reduceEqDiff, Nat.reduceAdd]
    simp
    omega
  rintro i e H' ⟨e21, e20, e5, e0, hi, hq, rfl⟩
  by_cases hlt : (i : Int) < m
  · have hpos : 0 ≤ p ^ i := Int.pow_nonneg (by omega)
    have h6 : p ^ (i + 1) = p ^ i * p := Int.pow_succ _ _
    have h7 := mul_bd hpos hq (show 0 ≤ p by omega) (show p ≤ 256 by omega)
    by_cases hc : 256 < p ^ i * p
    · simp (disch := first | assumption | omega) only [↓RP, RQ, TY, loadT, reduceIte, Nat.reduceEqDiff, Nat.reduceAdd, e21, e20, e5, e0, hlt, hc]
      have : ordr p m = 0 := by
        rw [ordr, if_neg]
        rintro ⟨-, -, -, h⟩
        have h8 : p ^ (i + 1) ≤ p ^ m.toNat := ipow_mono (by omega) (by omega)
        omega
      rwa [this] at hQ
    · simp (disch := first | assumption | omega) only [↓RP, RQ, TY, loadT, reduceIte, Nat.reduceEqDiff, Nat.reduceAdd, e21, e20, e5, e0, hlt, hc]
      refine ⟨i + 1, ?_, by dsimp only; omega⟩
      simp (disch := first | assumption | omega) only [↓RP, RQ, TY, loadT, reduceIte, Nat.reduceEqDiff, Nat.reduceAdd, e21, e20, e5, e0, h6]
      omega
  · simp (disch := first | assumption | omega) only [↓RP, RQ, TY, loadT, reduceIte, Nat.reduceEqDiff, Nat.reduceAdd, e21, e20, e5, e0, hlt]
    have e5 : m.toNat = i := by omega
    rwa [ordr, e5, if_pos (by omega)] at hQ
open Classical in
theorem c_isPrime {n : Int} {H : AH} {Q : AV → AH → Prop} (hn : 2 ≤ n) (hn' : n ≤ 256) (hQ : Q (.bool (decide (prm n))) H) : AC Try.prog 80 [.int .i64 n] H Q := by
  refine at80 (by simp) ?_
  simp (disch := first | assumption | omega) only [↓RP, RQ, TY, loadT, s80, reduceIte, Nat.reduceEqDiff, Nat.reduceAdd]
  refine sw_loop (σ := Nat) (fun i e H' => e 3 = .int .i64 i ∧ e 0 = .int .i64 n ∧ 2 ≤ i ∧ i ≤ 17 ∧ (∀ d : Int, 2 ≤ d → d < i → n % d ≠ 0) ∧ H' = H) (fun i => 17 - i) 2 ?_ ?_
  · simp (disch := first | assumption | omega) only [↓RP, RQ, TY, loadT, reduceIte, Nat.reduceEqDiff, Nat.reduceAdd]
    refine ⟨rfl, by omega, by omega, fun d h1 h2 => ?_⟩
    have : ((2 : Nat) : Int) = 2 := rfl
    omega
  rintro i e' H' ⟨e3, e0, hi, hi', hd, rfl⟩
  have hb := mul_bd (a := (i : Int)) (b := (i : Int)) (A := 17) (B := 17) (by omega) (by omega) (by omega) (by omega)
  by_cases hlt : (i : Int) * i ≤ n
  · have i16 : i ≤ 16 := by
      apply Classical.byContradiction
      intro q
      have : i = 17 := by omega
      subst this
      omega
    have hin : (i : Int) < n := by
      have : (i : Int) * 2 ≤ i * i := Int.mul_le_mul_of_nonneg_left (by omega) (by omega)
      omega
    by_cases hz : n % (i : Int) = 0
    · simp (disch := first | assumption | omega) only [↓RP, RQ, TY, loadT, reduceIte, Nat.reduceEqDiff, Nat.reduceAdd, e3, e0, hlt, hz]
      rwa [decide_eq_false (fun q => q i (by omega) hin hz)] at hQ
    · simp (disch := first | assumption | omega) only [↓RP, RQ, TY, loadT, reduceIte, Nat.reduceEqDiff, Nat.reduceAdd, e3, e0, hlt, hz]
      refine ⟨i + 1, ?_, by dsimp only; omega⟩
      simp (disch := first | assumption | omega) only [↓RP, RQ, TY, loadT, reduceIte, Nat.reduceEqDiff, Nat.reduceAdd, e3, e0]
      refine ⟨by omega, by omega, fun d h1 h2 => ?_⟩
      by_cases hdi : d = i
      · rw [hdi]; exact hz
      · exact hd d h1 (by omega)
  · simp (disch := first | assumption | omega) only [↓RP, RQ, TY, loadT, reduceIte, Nat.reduceEqDiff, Nat.reduceAdd, e3, e0, hlt, hn]
    rwa [decide_eq_true] at hQ
    intro d h1 h2 hz
    by_cases hdi : d < i
    · exact hd d h1 hdi hz
    · -- the other factor is small
      have e1 := Int.mul_ediv_add_emod n d
      rw [hz, Int.add_zero] at e1
      have q0 : 0 ≤ n / d := Int.ediv_nonneg (by omega) (by omega)
      have q1 : n / d < i := by
        apply Classical.byContradiction
        intro q
        have h3 : (i : Int) * i ≤ d * (n / d) := Int.mul_le_mul (by omega) (by omega) (by omega) (by omega)
        omega
      have q2 : 2 ≤ n / d := by
        apply Classical.byContradiction
        intro q
        have : d * (n / d) ≤ d * 1 := Int.mul_le_mul_of_nonneg_left (by omega) (by omega)
        omega
      refine hd (n / d) q2 q1 ?_
      generalize n / d = k at *
      rw [← e1, show d * k = k * d from Int.mul_comm _ _, Int.mul_emod_right]
theorem c_fdigits {x p n : Int} {H : AH} {Q : AV → AH → Prop} (hx : 0 ≤ x) (hx' : x ≤ 9000000000000000000) (hp : 0 < p) (hn : 0 ≤ n) (hn' : n ≤ 1000)
    (hQ : ∀ b H', H b = .free → Ext H H' → H' b = .rw (ints (digs p n.toNat x)) → Q (.sl b 0 n.toNat (.own 1)) H') :
    AC Try.prog 104 [.int .i64 x, .int .i64 p, .int .i64 n] H Q := by
  refine at104 (by simp) ?_
  simp (disch := first | assumption | omega) only [↓RP, RQ, TY, loadT, s104, reduceIte, Nat.reduceEqDiff, Nat.reduceAdd]
  refine kNew_intro fun b H1 hb hE hH1 => ?_
  simp (disch := first | assumption | omega) only [↓RP, RQ, TY, loadT, reduceIte, Nat.reduceEqDiff, Nat.reduceAdd]
  refine sw_loop (σ := Nat × Int × List Int) (fun s e H' => e 13 = .int .i64 s.1 ∧ e 12 = .int .i64 n ∧ e 7 = .sl b 0 n.toNat (.own 1) ∧ e 1 = .int .i64 p ∧ e 0 = .int .i64 s.2.1 ∧ s.1 ≤ n.toNat ∧ 0 ≤ s.2.1 ∧ s.2.1 ≤ x ∧ Ext H H' ∧ s.2.2.length = n.toNat ∧
    H' b = .rw (ints s.2.2) ∧ s.2.2.take s.1 ++ digs p (n.toNat - s.1) s.2.1 = digs p n.toNat x) (fun s => n.toNat - s.1) (0, x, List.replicate n.toNat 0) ?_ ?_
  · simp (disch := first | assumption | omega) only [↓RP, RQ, TY, loadT, reduceIte, Nat.reduceEqDiff, Nat.reduceAdd, hH1]
    simp [hx, hE, ints, hn]
  · rintro ⟨i, y, L⟩ e' H' ⟨e13, e12, e7, e1, e0, hi, hy, hy', hE', hL, hb', hd⟩
    dsimp only at *
    by_cases hlt : (i : Int) < n
    · have h1 := Int.ediv_nonneg hy (Int.le_of_lt hp)
      have h2 := Int.ediv_le_self p hy
      simp (disch := first | assumption | omega) only [↓RP, RQ, TY, loadT, reduceIte, Nat.reduceEqDiff, Nat.reduceAdd, e13, e12, e7, e1, e0, hlt, hb']
      refine ⟨(i + 1, y / p, L.set i (y % p)), ?_, ?_⟩
      · simp (disch := first | assumption | omega) only [↓RP, RQ, TY, loadT, reduceIte, Nat.reduceEqDiff, Nat.reduceAdd, e13, e12, e7, e1, e0]
        refine ⟨by omega, h1, by omega, hE'.upd hb _, by simpa using hL, ?_⟩
        rw [← hd, show n.toNat - i = (n.toNat - (i + 1)) + 1 by omega, digs]
        rw [List.take_succ_eq_append_getElem (by simp; omega)]
        simp [List.take_set_of_le]
      · show n.toNat - (i + 1) < n.toNat - i
        omega
    · simp (disch := first | assumption | omega) only [↓RP, RQ, TY, loadT, reduceIte, Nat.reduceEqDiff, Nat.reduceAdd, e13, e12, e7, e1, e0, hlt]
      refine hQ b H' hb hE' ?_
      rw [hb', ← hd, show n.toNat - i = 0 by omega]
      simp [digs, List.take_of_length_le (show L.length ≤ i by omega)]
theorem c_fvalue {p : Int} {vd : AV} {ds : List Int} {H : AH} {Q : AV → AH → Prop} (hp : 2 ≤ p) (hd : Ints H vd ds) (rd : Rng p ds) (hp' : p ≤ 256) (hl : ds.length ≤ 100) (hq : p ^ ds.length ≤ 256)
    (hQ : Q (.int .i64 (val p ds)) H) : AC Try.prog 105 [vd, .int .i64 p] H Q := by
  refine at105 (by simp) ?_
  simp (disch := first | assumption | omega) only [↓RP, RQ, TY, loadT, s105, reduceIte, Nat.reduceEqDiff, Nat.reduceAdd, hd.ints]
  refine sw_loop (σ := Nat) (fun k e H' => e 6 = .int .i64 ((ds.length - k : Int) - 1) ∧ e 5 = .int .i64 (val p (ds.drop (ds.length - k))) ∧ e 1 = .int .i64 p ∧ e 0 = vd ∧ k ≤ ds.length ∧ H' = H) (fun k => ds.length - k) 0 ?_ ?_
  · simp (disch := first | assumption | omega) only [↓RP, RQ, TY, loadT, reduceIte, Nat.reduceEqDiff, Nat.reduceAdd]
    simp [val]
  rintro k e H' ⟨e6, e5, e1, e0, hk, rfl⟩
  have v1 := val_lt (show 0 < p by omega) (rd.drop (ds.length - k))
  have v2 : p ^ (ds.drop (ds.length - k)).length ≤ 256 := Int.le_trans (ipow_mono (by omega) (by simp)) hq
  by_cases hlt : 0 ≤ (ds.length - k : Int) - 1
  · have hi : ((ds.length - k : Int) - 1).toNat = ds.length - (k + 1) := by omega
    have v3 := val_lt (show 0 < p by omega) (rd.drop (ds.length - (k + 1)))
    have v4 : p ^ (ds.drop (ds.length - (k + 1))).length ≤ 256 := Int.le_trans (ipow_mono (by omega) (by simp)) hq
    have v5 : val p (ds.drop (ds.length - (k + 1))) = ds.getD (ds.length - (k + 1)) 0 + p * val p (ds.drop (ds.length - k)) := by
      rw [drop_getD (show ds.length - (k + 1) < ds.length by omega), val, show ds.length - (k + 1) + 1 = ds.length - k by omega]
    have v6 : p * val p (ds.drop (ds.length - k)) = val p (ds.drop (ds.length - k)) * p := Int.mul_comm _ _
    have v7 := rd (ds.length - (k + 1))
    have v8 := mul_bd v1.1 (show val p (ds.drop (ds.length - k)) ≤ 256 by omega) (show 0 ≤ p by omega) hp'
    simp (disch := first | assumption | omega) only [↓RP, RQ, TY, loadT, reduceIte, Nat.reduceEqDiff, Nat.reduceAdd, hd.ints, e6, e5, e1, e0, hlt, hi]
    refine ⟨k + 1, ?_, by dsimp only; omega⟩
    simp (disch := first | assumption | omega) only [↓RP, RQ, TY, loadT, reduceIte, Nat.reduceEqDiff, Nat.reduceAdd, e6, e5, e1, e0]
    refine ⟨?_, ?_, by omega⟩
    · congr 1
      omega
    · congr 1
      omega
  · simp (disch := first | assumption | omega) only [↓RP, RQ, TY, loadT, reduceIte, Nat.reduceEqDiff, Nat.reduceAdd, hd.ints, e6, e5, e1, e0, hlt]
    rw [show ds.length - k = 0 by omega]
    exact hQ
end Go.Proofs.Yteijojnahpeglaa.AM
